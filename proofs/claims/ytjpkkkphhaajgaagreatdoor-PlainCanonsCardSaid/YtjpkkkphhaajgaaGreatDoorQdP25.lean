/- a part -/
import Derived.Test.YtjpkkkphhaajgaaGreatDoorQdTpSame
import Derived.Test.YtjpkkkphhaajgaaGreatDoorQdSortedV
import Derived.Sort.MapsRangeIn
set_option linter.all false
namespace Go.Proofs.YtjpkkkphhaajgaaGreatDoor.wcp
open Go RowKit Shelf ChangeShapes WideShapes ChangeAt Maps words scn told
attribute [local go_sem] Oper.semAt_some
def YKey (m:Nat)(D:DataW Unit)(pre:List (List Int))(t:List Int)(W0 W:World):Prop:=Tpl_ m t∧Maps.has D (keyL (pad t))=true∧t∉pre∧Below W0.heap.size W0 W
def KeysOf (m:Nat)(D:DataW Unit)(ys:List (List Int)):Prop:=ys.Nodup∧∀t,t∈ys↔Tpl_ m t∧Maps.has D (keyL (pad t))=true
theorem keysM_any (mb:Option Nat)(w:World):Calls Tryz.prog 125 #[.map mb] w fun e w'=>e = .returned (.func (.func 168) #[] #[.pointer (some ⟨w.heap.size,0,none⟩)])∧w.alloc (.cells #[.map mb] 101)=w':=by
 go_enter Tryz.func125,Tryz.ntmps125
 go_wp2
 go_ret;exact⟨rfl,rfl⟩
set_option maxRecDepth 100000 in
set_option maxHeartbeats 8000000 in
theorem keys1_in (n:Nat)(hn:1≤n)(l gb b nn m:Nat)(D:DataW Unit)(hD:∀kl,Maps.has D kl=true→∃t,Tpl_ m t∧kl=keyL (pad t))(J Jx:List (List Int)→World→Prop)
 (hY:∀pre t W0 W1,J pre W0→YKey m D pre t W0 W1→pre.length<Maps.size D→YieldAt Fence.wide (n-1) Tryz.prog l #[keyV (pad t)] W1 fun e W' =>
  (e = .returned (.bool true)∧J (pre ++ [t]) W'∧KeepsWalks W1 W')∨(e = .returned (.bool false)∧Jx (pre ++ [t]) W'))
 (W:World) (hJ:AbidesFrom W.heap.size J) (hb:Blk W gb 101 #[.map (some b)]) (hown:W.ownsMap Tryz.prog 166 (plainElem Tryz.prog 2) b nn D) (h0:J [] W) :
 CallsIn Fence.wide n Tryz.prog 168 #[.func (.yield l) #[] #[],.pointer (some ⟨gb,0,none⟩)] W fun e W'=>(∃v,e = .returned v) ∧
  ((∃ys,KeysOf m D ys∧J ys W')∨(∃pre,True∧Jx pre W')):=by
 obtain⟨b0,b1⟩:=hb.one;refine callsIn_of_wp Tryz.func168 rfl trivial ?_ rfl;simp only[Tryz.ntmps168,List.size_toArray,List.length_cons,List.length_nil,Nat.reduceAdd,Nat.reduceSub,Array.replicate_succ,Array.replicate_zero,List.push_toArray,List.append_toArray,List.nil_append,List.cons_append];clear hb
 gi_wp2_with (first
  |(gi_at_range;refine wpListIn_range_own _ rfl _ 101 rfl 166 2 keyed6 Tryz.underlying101 _ b nn _ rfl hown ?_;intro w0 hrg0 hg0 hs0)
  |fail)
 go_frame
 have h00:J [] w0:=hJ [] W w0 none h0 hg0 (fun r e=>by cases e)
 gi_loopw [3] (fun _ wr => ∃ (left:Lit→Bool) (cnt:Nat) (G:List (List Int)),wr.ranges Tryz.prog 166 (plainElem Tryz.prog 2) b W.heap.size nn D left cnt∧G.length+cnt≤Maps.size D∧G.Nodup∧(∀t∈G,Tpl_ m t∧Maps.has D (keyL (pad t))=true)∧(∀t,Tpl_ m t→Maps.has D (keyL (pad t))=true→t∉G→left (keyL (pad t))=true)∧(∀t∈G,left (keyL (pad t))=false)∧J G wr)
  (fun _ wr=>wr.rangeLeft b W.heap.size)
 case atStart=>exact⟨_,_,[],hrg0,by simp,List.nodup_nil,fun t h=>by simp at h,fun t _ h _=>h,fun t h=>by simp at h,h00⟩
 case round =>
  clear hrg0 hg0 hs0 h00 h0;obtain⟨left,cnt,G,hrg,hcs,hnd,hin,hle,hlf,hJG⟩:=hrel
  gi_wp2_with (first
   |(gi_at_next;refine wpListIn_next_ranges _ rfl _ rfl 166 keyed6 (plainElem Tryz.prog 2) id id (fun key kl hk=>⟨key,rfl⟩) (fun v _ _=>⟨v,rfl⟩) b W.heap.size nn _ _ _ rfl hrg ?_ ?_)
   |fail)
  ·intro hc0 hl0
   gi_wp2
   go_end0
   refine⟨⟨_,rfl⟩,.inl ⟨G,⟨hnd,fun t=>⟨hin t,fun h=>?_⟩⟩,hJG⟩⟩;by_cases hm:t∈G
   ·exact hm
   ·have:=hle t h.1 h.2 hm
    rw[hl0]at this;cases this
  ·intro key c kl y yp w2 cnt2 hkey hlk hv hat hrg2 hlt hg2 hs2 hen
   have hhas:=has_true_of_atKey hat;obtain⟨t,ht,rfl⟩:=hD kl hhas;obtain rfl:key=keyV (pad t):=keyed6.inj hkey (keyOf6 ht.pad.1 ht.pad.2);have hJ2:J G w2:=hJ G wr w2 (some W.heap.size) hJG hg2 (fun r e=>by cases e;exact⟨Nat.le_refl _,hrg.iter_walk⟩);have htG:t∉G:=fun h=>by rw[hlf t h]at hlk;cases hlk
   obtain⟨a0,a1,a2,a3,a4,a5,hpd⟩:=six ht.pad.1;have hkv:keyV (pad t) = .agg #[.int .i8 a0,.int .i8 a1,.int .i8 a2,.int .i8 a3,.int .i8 a4,.int .i8 a5]:=by rw[hpd];rfl
   obtain⟨w3,hw3⟩:∃w3,(w2.alloc (.cells #[.int .i8 a0,.int .i8 a1,.int .i8 a2,.int .i8 a3,.int .i8 a4,.int .i8 a5] 166))=w3:=⟨_,rfl⟩;have hB3:Below w2.heap.size w2 w3:=by rw[← hw3];exact bone w2 _
   obtain⟨fn,tmps,assign,body,hy,hR⟩:=hY G t w2 w3 hJ2 ⟨ht,hhas,htG,hB3⟩ (by omega);have hK0:Blk w3 w2.heap.size 166 #[.int .i8 a0,.int .i8 a1,.int .i8 a2,.int .i8 a3,.int .i8 a4,.int .i8 a5]:=by rw[← hw3];exact Blk.new _ _ _
   have hW3:KeepsWalks w2 w3:=by rw[← hw3];exact KeepsWalks.alloc _ _
   try simp only[id_eq]at hen
   try simp only[id_eq]
   rw[hkv]at hen hy ⊢;obtain⟨x0,x1,x2,x3,x4,x5,-⟩:=Blk.six (t:=166) hK0;have HRG2:=Hd hrg2;have HLE:=Hd hrg.left_eq;have HLK:=Hd (⟨hlk,hlt⟩:left (keyL (pad t))=true∧cnt2<cnt);have HG:=Hd (And.intro hnd (And.intro hin (And.intro hle hlf)));have HKK:=Hd (keyed6.key hkey);clear hs2 hK0 hrg2 hrg hlk hlt hnd hin hle hlf hkey hv hat
   gi_wp2
   refine hR.mono ?_;rintro e W3 (⟨rfl,hJ3,hk3⟩ | ⟨rfl,hJx3⟩)
   ·gi_wp2
    obtain⟨hnd,hin,hle,hlf⟩:=HG.out;have hrg3:=(HRG2.out.of_walks hW3).of_walks hk3;go_roundw
    case rel =>
     refine⟨_,cnt2,G ++ [t],hrg3,by have:=HLK.out.2;simp;omega,List.nodup_append.2 ⟨hnd,by simp,fun x hx y hy e=>htG (by simp at hy;rw[← hy,← e];exact hx)⟩,fun u hu=>?_,fun u hu h1 h2=>?_,fun u hu=>?_,hJ3⟩
     ·rcases List.mem_append.1 hu with hu | hu
      ·exact hin u hu
      ·rw[List.mem_singleton.1 hu];exact⟨ht,hhas⟩
     ·have h3:u∉G:=fun h=>h2 (by simp[h])
      have h4:keyL (pad u)≠keyL (pad t):=fun h=>h2 (by rw[kl_inj hu ht h];simp)
      simp only[hle u hu h1 h3,Maps.sameKey_ne h4];rfl
     ·rcases List.mem_append.1 hu with hu | hu
      ·simp only[hlf u hu];rfl
      ·rw[List.mem_singleton.1 hu]
       simp only[WideAt.sameKey_self HKK.out];simp
    case measure=>rw[hrg3.left_eq,HLE.out];exact HLK.out.2
   ·gi_wp2
    refine bodyPost_ret (results_none rfl _ _ _) rfl ?_;exact⟨⟨_,rfl⟩,.inr ⟨_,trivial,hJx3⟩⟩
theorem keys1_told (n:Nat)(hn:1≤n)(gb b nn m:Nat)(D:DataW Unit)(hD:∀kl,Maps.has D kl=true→∃t,Tpl_ m t∧kl=keyL (pad t))(w:World)(hb:Blk w gb 101 #[.map (some b)])(hown:w.ownsMap Tryz.prog 166 (plainElem Tryz.prog 2) b nn D) :
 SeqTold n Tryz.prog 168 #[.pointer (some ⟨gb,0,none⟩)] (fun t => #[keyV (pad t)]) (YKey m D) KeepsWalks (KeysOf m D) (fun _=>True) (Maps.size D) w:=fun l J Jx W hW hJ _ hY h0 =>
 keys1_in n hn l gb b nn m D hD J Jx hY W hJ (hb.under hW) (map_tch hown (Tch.of_below hW fun _=>False) fun h=>h) h0
attribute [local go_sem] Oper.semAt_some
def kc (t:List Int):List Value:=(pad t).map (Value.int .i8)
def kcells (L:List (List Int)):List Value:=L.flatMap kc
theorem infoK:(Tryz.prog.info? 166).map (fun i=>(i.zero,i.size,i.bytes))=some (some (.agg #[.int .i8 0,.int .i8 0,.int .i8 0,.int .i8 0,.int .i8 0,.int .i8 0]),6,6):=by kernel_rfl
theorem kcells_snoc (L:List (List Int))(t:List Int):kcells (L ++ [t])=kcells L++kc t:=by simp[kcells]
theorem kc_len {t:List Int}(h:(pad t).length=6):(kc t).length=6:=by simp[kc,h]
def BoxK (w:World)(g0:Nat)(pre:List (List Int))(W:World):Prop :=
 Below w.heap.size w W∧∃A c,Blk W g0 213 #[.slice A pre.length c]∧W.ownsRow w.heap.size 166 6 (.slice A pre.length c) pre.length (kcells pre)
theorem walks_cells {W W':World}{S:Nat→Prop}(T:Tch W W' S)(h:∀i,S i→i<W.heap.size→∃cs t,Blk W i t cs):KeepsWalks W W' :=
 ⟨T.size,fun k o hk ho=>by
  refine (T.block k (Array.getElem?_eq_some_iff.1 hk).1 fun hs=>?_).trans hk;obtain⟨cs,t,hb⟩:=h k hs (Array.getElem?_eq_some_iff.1 hk).1;rw[show W.heap[k]?=_ from hb]at hk
  cases hk;cases ho⟩
theorem from_cells {W W':World}{S:Nat→Prop}(B:Nat)(T:Tch W W' S)(h:∀i,S i→i<W.heap.size→∃cs t,Blk W i t cs):KeepsFrom B W W' :=
 ⟨T.size,fun k o _ hk ho=>by
  refine (T.block k (Array.getElem?_eq_some_iff.1 hk).1 fun hs=>?_).trans hk;obtain⟨cs,t,hb⟩:=h k hs (Array.getElem?_eq_some_iff.1 hk).1;rw[show W.heap[k]?=_ from hb]at hk
  cases hk;cases ho⟩
theorem cells_new6 (w:World)(a0 a1 a2 a3 a4 a5:Value)(t:TypeId):∀j u,[a0,a1,a2,a3,a4,a5][j]?=some u→(w.alloc (.cells #[a0,a1,a2,a3,a4,a5] t)).cell? ((⟨w.heap.size,0,none⟩:Addr).add j)=some u:=by
 intro j u h;have ha:(⟨w.heap.size,0,none⟩:Addr).add j=⟨w.heap.size,j,none⟩:=by unfold Addr.add;split<;>simp_all
 rw[ha];simp only[World.cell?,World.alloc_heap_new]
 simpa using h
theorem boxk_next {W W3:World}{B g:Nat}{A2:Option Addr}{k c2 n:Nat}{v:Value}{xs ys:List Value}{o:Obj}(hb:Blk W g 213 #[.slice A2 k c2])(ho:W.ownsRow B 166 6 (.slice A2 k c2) k xs)(ho':W3.ownsRow B 166 6 v n ys)
 (hg:(W.alloc o).grownBy W3 (Value.slice A2 k c2).ownBlock):Blk W3 g 213 #[.slice A2 k c2]:=by
 have h1:Blk (W.alloc o) g 213 #[.slice A2 k c2]:=hb.alloc _;refine h1.grown hg fun e=>?_
 exact own_blk_ne ho hb (by decide) e.symm
set_option maxRecDepth 100000 in
set_option maxHeartbeats 8000000 in
theorem appkeys_any (gb b nn m:Nat)(D:DataW Unit)(hD:∀kl,Maps.has D kl=true→∃t,Tpl_ m t∧kl=keyL (pad t))(w:World)(hN:Maps.size D≤1000000)(hb:Blk w gb 101 #[.map (some b)])(hown:w.ownsMap Tryz.prog 166 (plainElem Tryz.prog 2) b nn D) :
 Calls Tryz.prog 186 #[.slice none 0 0,.func (.func 168) #[] #[.pointer (some ⟨gb,0,none⟩)]] w fun e w' => ∃L A' c',KeysOf m D L∧L.length≤Maps.size D∧e = .returned (.slice A' L.length c')∧w'.ownsRow w.heap.size 166 6 (.slice A' L.length c') L.length (kcells L)∧Below w.heap.size w w':=by
 obtain⟨i0,hi0,hz0,hz1,hz2⟩:=info_parts infoK;have hgl:=hb.lt;refine (callsIn_wide (n:=4)).1 ?_;refine callsIn_of_wp_marks Tryz.func186 rfl trivial ?_ rfl;simp only[Tryz.ntmps186,List.size_toArray,List.length_cons,List.length_nil,Nat.reduceAdd,Nat.reduceSub,Array.replicate_succ,Array.replicate_zero,List.push_toArray,List.append_toArray,List.nil_append,List.cons_append];refine wpIn_wide.2 ?_;refine Code.wp_mono NoPanic.imp ?_;have hB1:=bone w (.cells #[.slice none 0 0] 213);have hbx:=Blk.new w 213 #[.slice none 0 0];obtain⟨w1,hw1⟩:∃w1,w.alloc (.cells #[.slice none 0 0] 213)=w1:=⟨_,rfl⟩;rw[hw1]at hB1 hbx;have hsz:w.heap.size<w1.heap.size:=hbx.lt;have hg1:=hb.under hB1;have ho1:w1.ownsMap Tryz.prog 166 (plainElem Tryz.prog 2) b nn D:=map_tch hown (Tch.of_below hB1 fun _=>False) fun h=>h
 go_upto_region 2 with fail
 try rw[hw1]
 clear hw1 hb hown;refine (wpIn_wide (n:=4)).1 ?_
 refine range_told2 (by omega) (gf:=168) (lb := #[.pointer (some ⟨gb,0,none⟩)]) rfl (enters_of Tryz.func168 (by kernel_rfl) rfl)
  (keys1_told (4-1) (by omega) gb b nn m D hD w1 hg1 ho1)
  walksK_t walksK_b (Below.refl _ _) (fun _=>rfl)
  (fun pre W=>pre.length≤Maps.size D∧(∀t∈pre,Tpl_ m t)∧BoxK w w.heap.size pre W) (fun _ _ _=>False) ?hI (fun _ _ _ _ _ hs _ _=>hs) (fun _ _ _ _ h=>h.2.2.2)
  (fun pre x W=>((∀t∈pre,Tpl_ m t)∧BoxK w w.heap.size pre W)∧Tpl_ m x) ?hZ ?hIZ ⟨Nat.zero_le _,fun t h=>by simp at h,hB1,none,0,hbx,World.ownsRow_nil _ _ _ _⟩
  (fun pre x a W=>(∀t∈pre,Tpl_ m t)∧BoxK w w.heap.size pre W∧Tpl_ m x∧∃gx,Blk W gx 166 (kc x).toArray∧a = { tmps := #[.slice none 0 0,.func (.func 168) #[] #[.pointer (some ⟨gb,0,none⟩)],.pointer (some ⟨w.heap.size,0,none⟩),undef,.slice none 0 0,.pointer (some ⟨gx,0,none⟩),.func (.func 168) #[] #[.pointer (some ⟨gb,0,none⟩)],keyV (pad x),undef,undef,undef,undef,undef],defers := [] }) ?hA ?assign ?body ?done ?stop
 case hI =>
  rintro pre W W' row ⟨h0,h00,h1,A2,c2,h2,h3⟩ hg hrow;exact⟨h0,h00,h1.grown hg h1.size fun k e=>by have:=(hrow k e).1;omega,A2,c2,blk_kept h2 hg fun r e=>(hrow r e).2,own_kept h3 hg fun r e=>(hrow r e).2⟩
 case hZ =>
  rintro pre x _ W W' row ⟨⟨h0,h1,A2,c2,h2,h3⟩,h4⟩ hg hrow;exact⟨⟨h0,h1.grown hg h1.size fun k e=>by have:=(hrow k e).1;omega,A2,c2,blk_kept h2 hg fun r e=>(hrow r e).2,own_kept h3 hg fun r e=>(hrow r e).2⟩,h4⟩
 case hA =>
  rintro pre x a _ W W' row ⟨h0,⟨h1,A2,c2,h2,h3⟩,h4,gx,h5,h6⟩ hg hrow;exact⟨h0,⟨h1.grown hg h1.size fun k e=>by have:=(hrow k e).1;omega,A2,c2,blk_kept h2 hg fun r e=>(hrow r e).2,own_kept h3 hg fun r e=>(hrow r e).2⟩,h4,gx,blk_kept h5 hg fun r e=>(hrow r e).2,h6⟩
 case hIZ =>
  rintro pre x W0 W1 ⟨h0,h00,h1,A2,c2,h2,h3⟩ ⟨h4,h5,h6,h7⟩ hle;exact⟨⟨h00,bto h1 h7,A2,c2,h2.under h7,own_under h3 h7⟩,h4⟩
 case assign =>
  rintro l pre x W K hl ⟨⟨h0,h1,A2,c2,h2,h3⟩,h4⟩ hK;obtain⟨a0,a1,a2,a3,a4,a5,hpd⟩:=six h4.pad.1;have hkv:keyV (pad x) = .agg #[.int .i8 a0,.int .i8 a1,.int .i8 a2,.int .i8 a3,.int .i8 a4,.int .i8 a5]:=by rw[hpd];rfl
  have hkc:(kc x).toArray = #[.int .i8 a0,.int .i8 a1,.int .i8 a2,.int .i8 a3,.int .i8 a4,.int .i8 a5]:=by unfold kc;rw[hpd];rfl
  dsimp only;rw[hkv]at hK ⊢;rw[hkc]at hK
  gi_wp2
  have hbw:=bone W (.cells #[.int .i8 a0,.int .i8 a1,.int .i8 a2,.int .i8 a3,.int .i8 a4,.int .i8 a5] 166);exact hK _ _ ⟨h0,⟨bto h1 hbw,A2,c2,h2.under hbw,own_under h3 hbw⟩,h4,W.heap.size,Blk.new _ _ _,rfl⟩ (KeepsWalks.alloc _ _) (from_cells _ (Tch.of_below hbw fun _=>False) fun _ h=>h.elim)
 case body =>
  rintro l pre x a W hl ⟨h0,⟨hT,A2,c2,hbx2,hrow⟩,hx,gx,hgx,rfl⟩ hlen;obtain⟨k,hk⟩:∃k,pre.length=k:=⟨_,rfl⟩;rw[hk]at hlen hbx2 hrow;obtain⟨a0,a1,a2,a3,a4,a5,hpd⟩:=six hx.pad.1;have hkc:kc x = [.int .i8 a0,.int .i8 a1,.int .i8 a2,.int .i8 a3,.int .i8 a4,.int .i8 a5]:=by unfold kc;rw[hpd];rfl
  rw[hkc]at hgx;obtain⟨x0,x1,x2,x3,x4,x5,-⟩:=Blk.six (t:=166) hgx;obtain⟨c0,c1⟩:=hbx2.one;have HT:=Hd hT;have HX:=Hd hx;have HK:=Hd hk;have H0:=Hd h0;have HKC:=Hd hkc;have hWs:=hT.size;have HBX:=Hd hbx2;have HROW:=Hd hrow;have hgl2:=hbx2.lt;clear hT hx hk h0 hgx hpd hkc
  gi_wp2_with (first
   |(gi_at_builtin;refine wpListIn_append_own _ rfl _ _ 213 rfl w.heap.size 166 i0 _ 6 6 Tryz.underlying213 hi0 hz0 hz1 hz2 rfl (by decide) _ _ _ rfl (hrow.alloc (.cells #[.int .i8 a0,.int .i8 a1,.int .i8 a2,.int .i8 a3,.int .i8 a4,.int .i8 a5] 166)) ⟨W.heap.size,0,none⟩ 1 1 [.int .i8 a0,.int .i8 a1,.int .i8 a2,.int .i8 a3,.int .i8 a4,.int .i8 a5] rfl rfl (cells_new6 _ _ _ _ _ _ _ _) (by simp[Value.oneCell']) (by simp only[maxLen];omega) (by omega) (by simp;omega) ?_;intro v' w3 hown' hg3 hnil3;obtain⟨A3,c3,rfl⟩:=own_shape hown';have hbx3:=boxk_next HBX.out hrow hown' hg3;obtain⟨d0,d1⟩:=hbx3.one;have HOWN:=Hd hown';have HG3:=Hd hg3;have HBX3:=Hd hbx3;clear hown' hg3 hnil3 hbx3)
   |fail)
  have hT5:Tch W (w3.setCell ⟨w.heap.size,0,none⟩ (.slice A3 (k+1) c3)) (fun i=>(Value.slice A2 k c2).ownBlock=some i∨i=w.heap.size):=((Tch.of_below (bone W _) _).trans (Tch.of_grown HG3.out (S:=fun i=>(Value.slice A2 k c2).ownBlock=some i∨i=w.heap.size) fun i hi e => .inl e.symm) fun _ _ h=>h).put (p:=⟨w.heap.size,0,none⟩) _ (.inr rfl)
  have hcl:∀i,((Value.slice A2 k c2).ownBlock=some i∨i=w.heap.size)→i<W.heap.size→∃cs t,Blk W i t cs:=fun i h _=>by
   rcases h with h | h
   ·obtain⟨cs,hc⟩:=own_is HROW.out h
    exact⟨cs,_,hc⟩
   ·subst h;exact⟨_,_,HBX.out⟩
  refine⟨from_cells _ hT5 hcl,walks_cells hT5 hcl,by rw[List.length_append,HK.out];simp;omega,fun t ht=>?_,HT.out.trans (hT5.below HT.out.size fun i hi h=>?_),A3,c3,?_,?_⟩
  ·rcases List.mem_append.1 ht with h | h
   ·exact H0.out t h
   ·rw[List.mem_singleton.1 h];exact HX.out
  ·rcases h with h | h
   ·have:=(own_in HROW.out h).1;omega
   ·omega
  ·rw[List.length_append,HK.out]
   exact HBX3.out.set_ 0 _
  ·rw[List.length_append,HK.out,kcells_snoc,HKC.out]
   exact (Tch.set_ w3 (S:=fun i=>i=w.heap.size) (p:=⟨w.heap.size,0,none⟩) (.slice A3 (k+1) c3) rfl).own HOWN.out fun q hq e=>own_blk_ne HOWN.out HBX3.out (by decide) (e ▸ hq)
 case done =>
  rintro D2 ys W hD2 hys ⟨hlen,hall,hT,A2,c2,hbx2,hrow⟩ hDK;obtain⟨c0,c1⟩:=hbx2.one;have HT:=Hd hT;have HROW:=Hd hrow;have HDK:=Hd hDK;clear hT hrow hDK;go_wp2_with fail;refine⟨by simp,.inl ⟨_,_,rfl,run_takeDeferred HDK.out,?_⟩⟩;have hfin:Tch W (W.putObj D2 (.deferred none)) (fun i=>i=D2):=Tch.of_grown (grownBy_putObj' W D2 _) fun i _ e=>by injection e
  refine⟨_,results_tmp rfl _ _ _,ys,A2,c2,hys,hlen,rfl,?_,?_⟩
  ·refine hfin.own HROW.out fun q hq e=>?_
   subst e;obtain⟨cs,hc⟩:=own_is HROW.out hq;rw[show W.heap[q]?=_ from hc]at HDK
   cases HDK.out
  ·exact HT.out.trans (hfin.below HT.out.size fun i hi h=>by omega)
 case stop =>
  rintro D c pre W _ _ h _;exact h.elim
theorem collK_any (gb b nn m:Nat)(D:DataW Unit)(hD:∀kl,Maps.has D kl=true→∃t,Tpl_ m t∧kl=keyL (pad t))(w:World)(hN:Maps.size D≤1000000)(hb:Blk w gb 101 #[.map (some b)])(hown:w.ownsMap Tryz.prog 166 (plainElem Tryz.prog 2) b nn D) :
 Calls Tryz.prog 166 #[.func (.func 168) #[] #[.pointer (some ⟨gb,0,none⟩)]] w fun e w' => ∃L A' c',KeysOf m D L∧L.length≤Maps.size D∧e = .returned (.slice A' L.length c')∧w'.ownsRow w.heap.size 166 6 (.slice A' L.length c') L.length (kcells L)∧Below w.heap.size w w':=by
 have h:=appkeys_any gb b nn m D hD w hN hb hown;clear hb hown
 go_enter Tryz.func166,Tryz.ntmps166
 go_wp2_with fail;refine h.mono ?_;rintro e w1 ⟨L,A1,c1,hK,hl,rfl,ho,hB⟩;clear h;go_wp2_with fail;go_ret;exact⟨L,A1,c1,hK,hl,rfl,ho,hB⟩
end Go.Proofs.YtjpkkkphhaajgaaGreatDoor.wcp

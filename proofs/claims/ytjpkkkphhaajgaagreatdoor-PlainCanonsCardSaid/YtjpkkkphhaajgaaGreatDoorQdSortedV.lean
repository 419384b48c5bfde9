/- a part -/
import Derived.Test.YtjpkkkphhaajgaaGreatDoorQdSortedI
import Derived.Deep.RegionHeld3
set_option linter.all false
namespace Go.Proofs.YtjpkkkphhaajgaaGreatDoor.words
open Go RowKit Shelf ChangeShapes WideShapes told
attribute [local go_sem] Oper.semAt_some
theorem infoI_:(Tryz.prog.info? 3).map (fun i=>(i.zero,i.size,i.bytes))=some (some (.int .i64 0),1,8):=by kernel_rfl
theorem tchK_t {S:Nat→Prop}{A B C:World}(h:Tch A B S)(k:Tch B C S):Tch A C S:=h.trans k fun _ _ h=>h
theorem tchK_b {S:Nat→Prop}{w:World}(hS:∀i,w.heap.size≤i→S i)(W:World)(l:Nat)(o o':Obj)(hl:w.heap.size≤l)(h:W.heap[l]?=some o)(_:o.isCells=false)(_:o.isWalk=false):Tch W (W.putObj l o') S :=
 Tch.of_grown (grownBy_putObj' W l o') fun i _ e=>by injection e with e;exact hS i (by omega)
def Box (w:World)(g0:Nat)(pre:List Int)(W:World):Prop :=
 Tch w W (fun i=>w.heap.size≤i)∧∃A c,Blk W g0 31 #[.slice A pre.length c]∧W.ownsRow w.heap.size 3 1 (.slice A pre.length c) pre.length (nums pre)
theorem box_next {W W3:World}{B g:Nat}{A2:Option Addr}{k c2 n:Nat}{v:Value}{xs ys:List Value}{x:Int}(hb:Blk W g 31 #[.slice A2 k c2])(ho:W.ownsRow B 3 1 (.slice A2 k c2) k xs)(ho':W3.ownsRow B 3 1 v n ys)
 (hg:(W.alloc (.cells #[.int .i64 x] 3)).grownBy W3 (Value.slice A2 k c2).ownBlock) (hgl:g<W.heap.size):Blk W3 g 31 #[.slice A2 k c2]:=by
 have h1:Blk (W.alloc (.cells #[.int .i64 x] 3)) g 31 #[.slice A2 k c2]:=hb.alloc _;refine h1.grown hg fun e=>?_
 rcases ho.2 with⟨e0,_⟩ | ⟨q,cap,cur,e0,_,hq,_⟩
 ·injection e0 with e1 e2 e3
  subst e1
  cases e
 ·injection e0 with e1 e2 e3
  subst e1;injection e with e
  subst e;rw[show W.heap[g]?=_ from hb]at hq
  cases hq
theorem keeps_own {W W':World}{B B' g:Nat}{e t:TypeId}{sz k:Nat}{v:Value}{xs:List Value}{cs:Array Value}(ho:W.ownsRow B' e sz v k xs)(hb:Blk W g t cs)(T:Tch W W' (fun i=>v.ownBlock=some i∨i=g)):KeepsFrom B W W' :=
 ⟨T.size,fun i o _ hk hc=>by
  refine (T.block i (Array.getElem?_eq_some_iff.1 hk).1 fun h=>?_).trans hk;rcases h with h | h
  ·rcases ho.2 with⟨e0,_⟩ | ⟨q,cap,cur,e0,_,hq,_⟩
   ·rw[e0]at h;cases h
   ·rw[e0]at h
    injection h with h
    subst h;rw[hq]at hk;cases hk;cases hc
  ·subst h
   rw[show W.heap[i]?=_ from hb]at hk;cases hk;cases hc⟩
set_option maxRecDepth 100000 in
set_option maxHeartbeats 4000000 in
theorem appseq_any (gb n c:Nat)(A:Option Addr)(xs:List Int)(w:World)(hn:n≤1000000)(hb:Blk w gb 31 #[.slice A n c])(hr:Reads w w.heap.size 1 A n (nums xs)) :
 Calls Tryz.prog 175 #[.slice none 0 0,.func (.func 146) #[] #[.pointer (some ⟨gb,0,none⟩)]] w fun e w' => ∃A' c',e = .returned (.slice A' n c')∧w'.ownsRow w.heap.size 3 1 (.slice A' n c') n (nums xs)∧Below w.heap.size w w':=by
 obtain⟨i0,hi0,hz0,hz1,hz2⟩:=info_parts infoI_;have hlen:=nums_len hr;have hgl:=hb.lt;refine (callsIn_wide (n:=4)).1 ?_;refine callsIn_of_wp_marks Tryz.func175 rfl trivial ?_ rfl;simp only[Tryz.ntmps175,List.size_toArray,List.length_cons,List.length_nil,Nat.reduceAdd,Nat.reduceSub,Array.replicate_succ,Array.replicate_zero,List.push_toArray,List.append_toArray,List.nil_append,List.cons_append];refine wpIn_wide.2 ?_;refine Code.wp_mono NoPanic.imp ?_;have hB1:=bone w (.cells #[.slice none 0 0] 31);have hbx:=Blk.new w 31 #[.slice none 0 0];obtain⟨w1,hw1⟩:∃w1,w.alloc (.cells #[.slice none 0 0] 31)=w1:=⟨_,rfl⟩;rw[hw1]at hB1 hbx;have hsz:w.heap.size<w1.heap.size:=hbx.lt;have hg1:=hb.under hB1;have hr1:=hr.below (w':=w1) hB1;have HW1:=Hd hw1;have HLEN:=Hd hlen;go_upto_region 2 with fail
 try rw[hw1]
 clear hw1 hb hr hlen;refine (wpIn_wide (n:=4)).1 ?_
 refine range_told (by omega) (gf:=146) (lb := #[.pointer (some ⟨gb,0,none⟩)]) rfl (enters_of Tryz.func146 (by kernel_rfl) rfl)
  (values1_told (4-1) (by omega) gb w.heap.size n c (fun i=>w.heap.size≤i) A xs hn (by omega) (fun i hi h=>by omega) w1 (by omega) hg1 hr1)
  tchK_t (tchK_b fun i hi=>by omega) (Below.refl _ _) (fun _=>rfl)
  (fun pre W=>pre=xs.take pre.length∧Box w w.heap.size pre W) (fun _ _ _=>False) ?hI (fun _ _ _ _ _ hs _ _=>hs) (fun _ _ _ _ h=>h.2 ▸ Below.refl _ _)
  (fun pre x W=>(pre=xs.take pre.length∧Box w w.heap.size pre W)∧xs[pre.length]?=some x) ?hZ ?hIZ ⟨by simp,Tch.of_below hB1 _,none,0,hbx,World.ownsRow_nil _ _ _ _⟩
  (fun x => { tmps := #[.slice none 0 0,.func (.func 146) #[] #[.pointer (some ⟨gb,0,none⟩)],.pointer (some ⟨w.heap.size,0,none⟩),undef,.slice none 0 0,.int .i64 x,.func (.func 146) #[] #[.pointer (some ⟨gb,0,none⟩)],.int .i64 x,undef,undef,undef,undef,undef],defers := [] }) ?assign ?body ?done ?stop
 case hI =>
  rintro pre W W' row ⟨h0,h1,A2,c2,h2,h3⟩ hg hrow;exact⟨h0,h1.trans (Tch.of_grown hg fun i _ e=>by have:=(hrow i e.symm).1;omega) fun _ _ h=>h,A2,c2,blk_kept h2 hg fun r e=>(hrow r e).2,own_kept h3 hg fun r e=>(hrow r e).2⟩
 case hZ =>
  rintro pre x _ W W' row ⟨⟨h0,h1,A2,c2,h2,h3⟩,h4⟩ hg hrow;exact⟨⟨h0,h1.trans (Tch.of_grown hg fun i _ e=>by have:=(hrow i e.symm).1;omega) fun _ _ h=>h,A2,c2,blk_kept h2 hg fun r e=>(hrow r e).2,own_kept h3 hg fun r e=>(hrow r e).2⟩,h4⟩
 case hIZ =>
  rintro pre x W0 W1 h1 ⟨h2,rfl⟩ hle;exact⟨h1,h2⟩
 case assign =>
  intro l x W K hK;dsimp only
  gi_wp2
  exact hK
 case body =>
  rintro l pre x W hl ⟨⟨hpre,hT,A2,c2,hbx2,hrow⟩,hx⟩ hlen;obtain⟨k,hk⟩:∃k,pre.length=k:=⟨_,rfl⟩;rw[hk]at hlen hbx2 hrow hx;obtain⟨c0,c1⟩:=hbx2.one;have HT:=Hd hT;have HPRE:=Hd hpre;have HX:=Hd hx;have HK:=Hd hk;have hWs:=hT.size;have hgl2:=hbx2.lt;have HBX:=Hd hbx2;have HROW:=Hd hrow;clear hT hpre hx hk
  gi_wp2_with (first
   |(gi_at_builtin;refine wpListIn_append_own _ rfl _ _ 31 rfl w.heap.size 3 i0 (.int .i64 0) 1 8 Tryz.underlying31 hi0 hz0 hz1 hz2 rfl (by decide) _ _ _ rfl (hrow.alloc (.cells #[.int .i64 x] 3)) ⟨W.heap.size,0,none⟩ 1 1 [.int .i64 x] rfl rfl (cell_one_new _ _ _) (by simp[Value.oneCell']) (by simp only[maxLen];omega) (by omega) (by simp;omega) ?_;intro v' w3 hown' hg3 hnil3;obtain⟨A3,c3,rfl⟩:=own_shape hown';have hbx3:=box_next HBX.out hrow hown' hg3 (by omega);obtain⟨d0,d1⟩:=hbx3.one;have HOWN:=Hd hown';have HG3:=Hd hg3;have HBX3:=Hd hbx3;clear hown' hg3 hnil3 hbx3)
   |fail)
  have hT3:Tch W w3 (fun i=>w.heap.size≤i):=(Tch.of_below (bone W (.cells #[.int .i64 x] 3)) _).trans (Tch.of_grown HG3.out fun i hi e=>by have:=(own_in HROW.out e.symm).1;exact this) fun _ _ h=>h
  have hT4:Tch W (w3.setCell ⟨w.heap.size,0,none⟩ (.slice A3 (k+1) c3)) (fun i=>w.heap.size≤i):=hT3.put (p:=⟨w.heap.size,0,none⟩) _ (Nat.le_refl _);have hT5:Tch W (w3.setCell ⟨w.heap.size,0,none⟩ (.slice A3 (k+1) c3)) (fun i=>(Value.slice A2 k c2).ownBlock=some i∨i=w.heap.size):=((Tch.of_below (bone W (.cells #[.int .i64 x] 3)) _).trans (Tch.of_grown HG3.out (S:=fun i=>(Value.slice A2 k c2).ownBlock=some i∨i=w.heap.size) fun i hi e => .inl e.symm) fun _ _ h=>h).put (p:=⟨w.heap.size,0,none⟩) _ (.inr rfl)
  have hxk:pre ++ [x]=xs.take (k+1):=by
   have:=HPRE.out;rw[HK.out]at this;rw[this,List.take_add_one,HX.out];rfl
  refine⟨keeps_own HROW.out HBX.out hT5,hT4,?_,HT.out.trans hT4 fun _ _ h=>h,A3,c3,?_,?_⟩
  ·rw[List.length_append,HK.out];exact hxk
  ·rw[List.length_append,HK.out]
   exact HBX3.out.set_ 0 _
  ·rw[List.length_append,HK.out]
   have h1:=(Tch.set_ w3 (S:=fun i=>i=w.heap.size) (p:=⟨w.heap.size,0,none⟩) (.slice A3 (k+1) c3) rfl).own HOWN.out fun q hq e=>own_blk_ne HOWN.out HBX3.out (by decide) (by rw[hq,e])
   simpa [nums] using h1
 case done =>
  rintro D ys W hD hlen ⟨hys,hT,A2,c2,hbx2,hrow⟩ hDK;have hyx:ys=xs:=by rw[hys,hlen,List.take_of_length_le (by have:=HLEN.out;omega)]
  subst hyx;rw[hlen]at hbx2 hrow;obtain⟨c0,c1⟩:=hbx2.one;have HT:=Hd hT;have HROW:=Hd hrow;have HDK:=Hd hDK;clear hT hrow hDK hys;go_wp2_with fail;refine⟨by simp,.inl ⟨_,_,rfl,run_takeDeferred HDK.out,?_⟩⟩;have hfin:Tch W (W.putObj D (.deferred none)) (fun i=>i=D):=Tch.of_grown (grownBy_putObj' W D _) fun i _ e=>by injection e
  refine⟨_,results_tmp rfl _ _ _,A2,c2,rfl,?_,?_⟩
  ·refine hfin.own HROW.out fun q hq e=>?_
   subst e;rcases HROW.out.2 with⟨e0,_⟩ | ⟨q',cap,cur,e0,_,hq',_⟩
   ·rw[e0]at hq;cases hq
   ·rw[e0]at hq
    injection hq with hq
    subst hq;rw[HDK.out]at hq';cases hq'
  ·exact (HT.out.trans hfin fun i hi e=>by subst e;omega).below (Nat.le_refl _) fun i hi h=>by omega
 case stop =>
  rintro D c pre W _ _ h _;exact h.elim
theorem collectV_any (gb n c:Nat)(A:Option Addr)(xs:List Int)(w:World)(hn:n≤1000000)(hb:Blk w gb 31 #[.slice A n c])(hr:Reads w w.heap.size 1 A n (nums xs)) :
 Calls Tryz.prog 144 #[.func (.func 146) #[] #[.pointer (some ⟨gb,0,none⟩)]] w fun e w' => ∃A' c',e = .returned (.slice A' n c')∧w'.ownsRow w.heap.size 3 1 (.slice A' n c') n (nums xs)∧Below w.heap.size w w':=by
 have h:=appseq_any gb n c A xs w hn hb hr;clear hb hr
 go_enter Tryz.func144,Tryz.ntmps144
 go_wp2_with fail;refine h.mono ?_;rintro e w1 ⟨A1,c1,rfl,ho,hB⟩;clear h;go_wp2_with fail;go_ret;exact⟨A1,c1,rfl,ho,hB⟩
theorem sortedV_any (gb n c:Nat)(A:Option Addr)(xs:List Int)(w:World)(hn:n≤1000000)(hb:Blk w gb 31 #[.slice A n c])(hr:Reads w w.heap.size 1 A n (nums xs)) :
 Calls Tryz.prog 99 #[.func (.func 146) #[] #[.pointer (some ⟨gb,0,none⟩)]] w fun e w' => ∃A' c',e = .returned (.slice A' n c')∧w'.ownsRow w.heap.size 3 1 (.slice A' n c') n (nums (riseI xs))∧Below w.heap.size w w':=by
 have h:=collectV_any gb n c A xs w hn hb hr;clear hb hr
 go_enter Tryz.func99,Tryz.ntmps99
 go_wp2_with fail;refine h.mono ?_;rintro e w1 ⟨A1,c1,rfl,ho,hB⟩;have hs:=sortI_any ho hn;have HB:=Hd hB;have HO:=Hd ho;clear h hB ho;go_wp2_with fail;refine hs.mono ?_;rintro e w2 ⟨rfl,ho2,hT⟩;clear hs;go_wp2_with fail;go_ret;exact⟨A1,c1,rfl,ho2,HB.out.trans (hT.below HB.out.size fun i hi h=>by have:=(own_in HO.out h).1;omega)⟩
end Go.Proofs.YtjpkkkphhaajgaaGreatDoor.words

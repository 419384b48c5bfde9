/- TpSort, TpLines, TpTab, CpOut, CpPure, CpLoop. -/
import Derived.Test.YtjpkkkphhaajgaaGreatDoorQrTakes
import Derived.Test.YtjpkkkphhaajgaaGreatDoorQrP26
import Derived.Test.YtjpkkkphhaajgaaGreatDoorQrP22
import Derived.Shelf.SlSortCmp.WholeK
import Derived.Shelf.SlSortCmp.NoneTotal
import Derived.Ground.SlsfProg
import Derived.Test.YtjpkkkphhaajgaaGreatDoorQrRowK
import Derived.Test.YtjpkkkphhaajgaaGreatDoorQrP19
import Derived.Test.YtjpkkkphhaajgaaGreatDoorQrP20
import Derived.Deep.RegionLaw
import Derived.Deep.RegionHeld3
set_option linter.all false
namespace Go.Proofs
open Go.Shelf
def Tryz.sortKey_ren:Go.Shelf.Ren:=⟨fun | 6=>167 | 15=>111 | 14=>187 | 28=>160 | 29=>161 | 20=>200 | 21=>201 | 22=>202 | 23=>203 | 24=>204 | 25=>205 | 26=>206 | 27=>207 | 46=>216 | 47=>179 | 48=>180 | 49=>217 | 50=>218 | 57=>224 | n=>n,fun | 22=>213 | 24=>166 | 25=>212 | 3=>3 | 39=>203 | 0=>0 | 53=>257 | 55=>135 | 4=>4 | 46=>250 | 45=>249 | 50=>254 | 5=>5 | 9=>9 | 66=>274 | 70=>278 | 76=>293 | 77=>294 | n=>n,fun | n=>n⟩
theorem Tryz.sortKey:Go.Proofs.SlLaysF0.n6 Tryz.prog Tryz.sortKey_ren:={
 mixed:=by kernel_rfl
 f6:=⟨Tryz.f167.name,by decide,Tryz.func167.trans (congrArg some (by kernel_rfl))⟩
 f14:=⟨Tryz.f187.name,by decide,Tryz.func187.trans (congrArg some (by kernel_rfl))⟩
 f15:=Tryz.func111.trans (congrArg some (by kernel_rfl))
 f20:=⟨Tryz.f200.name,by decide,Tryz.func200.trans (congrArg some (by kernel_rfl))⟩
 f21:=⟨Tryz.f201.name,by decide,Tryz.func201.trans (congrArg some (by kernel_rfl))⟩
 f22:=⟨Tryz.f202.name,by decide,Tryz.func202.trans (congrArg some (by kernel_rfl))⟩
 f23:=⟨Tryz.f203.name,by decide,Tryz.func203.trans (congrArg some (by kernel_rfl))⟩
 f24:=⟨Tryz.f204.name,by decide,Tryz.func204.trans (congrArg some (by kernel_rfl))⟩
 f25:=⟨Tryz.f205.name,by decide,Tryz.func205.trans (congrArg some (by kernel_rfl))⟩
 f26:=⟨Tryz.f206.name,by decide,Tryz.func206.trans (congrArg some (by kernel_rfl))⟩
 f27:=⟨Tryz.f207.name,by decide,Tryz.func207.trans (congrArg some (by kernel_rfl))⟩
 f28:=Tryz.func160.trans (congrArg some (by kernel_rfl))
 f29:=Tryz.func161.trans (congrArg some (by kernel_rfl))
 f46:=⟨Tryz.f216.name,by decide,Tryz.func216.trans (congrArg some (by kernel_rfl))⟩
 f47:=Tryz.func179.trans (congrArg some (by kernel_rfl))
 f48:=Tryz.func180.trans (congrArg some (by kernel_rfl))
 f49:=⟨Tryz.f217.name,by decide,Tryz.func217.trans (congrArg some (by kernel_rfl))⟩
 f50:=⟨Tryz.f218.name,by decide,Tryz.func218.trans (congrArg some (by kernel_rfl))⟩
 f57:=⟨Tryz.f224.name,by decide,Tryz.func224.trans (congrArg some (by kernel_rfl))⟩
 t0:=Tryz.underlying0
 a0:=Tryz.isAgg0
 z0:=Tryz.sizeOf0
 v0:=Tryz.zeroValue0
 t3:=Tryz.underlying3
 a3:=Tryz.isAgg3
 z3:=Tryz.sizeOf3
 v3:=Tryz.zeroValue3
 t4:=Tryz.underlying4
 a4:=Tryz.isAgg4
 z4:=Tryz.sizeOf4
 v4:=Tryz.zeroValue4
 t5:=Tryz.underlying5
 a5:=Tryz.isAgg5
 z5:=Tryz.sizeOf5
 v5:=Tryz.zeroValue5
 t9:=Tryz.underlying9
 a9:=Tryz.isAgg9
 z9:=Tryz.sizeOf9
 v9:=Tryz.zeroValue9
 t22:=Tryz.underlying213
 a22:=Tryz.isAgg213
 z22:=Tryz.sizeOf213
 v22:=Tryz.zeroValue213
 t25:=Tryz.underlying212
 a25:=Tryz.isAgg212
 z25:=Tryz.sizeOf212
 v25:=Tryz.zeroValue212
 t39:=Tryz.underlying203
 a39:=Tryz.isAgg203
 z39:=Tryz.sizeOf203
 v39:=Tryz.zeroValue203
 t45:=Tryz.underlying249
 a45:=Tryz.isAgg249
 z45:=Tryz.sizeOf249
 v45:=Tryz.zeroValue249
 t46:=Tryz.underlying250
 a46:=Tryz.isAgg250
 z46:=Tryz.sizeOf250
 v46:=Tryz.zeroValue250
 t50:=Tryz.underlying254
 a50:=Tryz.isAgg254
 z50:=Tryz.sizeOf254
 v50:=Tryz.zeroValue254
 t53:=Tryz.underlying257
 a53:=Tryz.isAgg257
 z53:=Tryz.sizeOf257
 v53:=Tryz.zeroValue257
 t55:=Tryz.underlying135
 a55:=Tryz.isAgg135
 z55:=Tryz.sizeOf135
 v55:=Tryz.zeroValue135
 t66:=Tryz.underlying274
 a66:=Tryz.isAgg274
 z66:=Tryz.sizeOf274
 v66:=Tryz.zeroValue274
 t70:=Tryz.underlying278
 a70:=Tryz.isAgg278
 z70:=Tryz.sizeOf278
 v70:=Tryz.zeroValue278
 t76:=Tryz.underlying293
 a76:=Tryz.isAgg293
 z76:=Tryz.sizeOf293
 v76:=Tryz.zeroValue293
 t77:=Tryz.underlying294
 a77:=Tryz.isAgg294
 z77:=Tryz.sizeOf294
 v77:=Tryz.zeroValue294 }
end Go.Proofs
namespace Go.Proofs.YtjpkkkphhaajgaaGreatDoor.wcp
open Go Go.RowKit Go.Shelf Go.ChangeShapes Go.WideShapes Go.ChangeAt Go.Maps Go.Proofs.YtjpkkkphhaajgaaGreatDoor.words Go.Proofs.YtjpkkkphhaajgaaGreatDoor.scn
def cmp1 (a b:Int):Int:=if a<b then -1 else if b<a then 1 else 0
theorem isnan8_any (a:Int)(w:World):Calls Tryz.prog 185 #[.int .i8 a] w fun e w'=>e = .returned (.bool false)∧w=w':=by
 go_enter Tryz.func185,Tryz.ntmps185
 go_wp2
 go_ret;exact⟨rfl,rfl⟩
theorem cmp8_any (a b:Int)(w:World):Calls Tryz.prog 165 #[.int .i8 a,.int .i8 b] w fun e w'=>e = .returned (.int .i64 (cmp1 a b))∧w=w':=by
 have h1:=isnan8_any a w;have h2:=isnan8_any b w;unfold cmp1;by_cases hab:a<b
 ·rw[if_pos hab]
  have hI:decide (a<b)=true:=decide_eq_true hab
  go_enter Tryz.func165,Tryz.ntmps165
  go_wp2_with fail;refine h1.mono ?_;rintro e w1 ⟨rfl,rfl⟩;go_wp2_with fail;refine h2.mono ?_;rintro e w1 ⟨rfl,rfl⟩;go_wp2_with fail;go_ret;exact⟨rfl,rfl⟩
 ·rw[if_neg hab]
  have hI:decide (a<b)=false:=decide_eq_false hab;by_cases hba:b<a
  ·rw[if_pos hba]
   have hI2:decide (b<a)=true:=decide_eq_true hba
   go_enter Tryz.func165,Tryz.ntmps165
   go_wp2_with fail;refine h1.mono ?_;rintro e w1 ⟨rfl,rfl⟩;go_wp2_with fail;refine h2.mono ?_;rintro e w1 ⟨rfl,rfl⟩;go_wp2_with fail;go_ret;exact⟨rfl,rfl⟩
  ·rw[if_neg hba]
   have hI2:decide (b<a)=false:=decide_eq_false hba
   go_enter Tryz.func165,Tryz.ntmps165
   go_wp2_with fail;refine h1.mono ?_;rintro e w1 ⟨rfl,rfl⟩;go_wp2_with fail;refine h2.mono ?_;rintro e w1 ⟨rfl,rfl⟩;go_wp2_with fail;go_ret;exact⟨rfl,rfl⟩
theorem cmpL_step {xs ys:List Int}{j:Nat}{x y:Int}(hx:xs[j]?=some x)(hy:ys[j]?=some y):cmpL (xs.drop j) (ys.drop j)=if x<y then -1 else if y<x then 1 else cmpL (xs.drop (j+1)) (ys.drop (j+1)):=by
 obtain⟨h1,rfl⟩:=List.getElem?_eq_some_iff.1 hx;obtain⟨h2,rfl⟩:=List.getElem?_eq_some_iff.1 hy;rw[List.drop_eq_getElem_cons h1,List.drop_eq_getElem_cons h2];rfl
set_option maxRecDepth 100000 in
set_option maxHeartbeats 4000000 in
theorem compare8_any (b1 b2 n m c1 c2:Nat)(xs ys:List Int)(w:World)(hn:n≤1000000)(hm:m≤1000000)(hx:xs.length=n)(hy:ys.length=m)(h1:∀j x,xs[j]?=some x→w.cell? ⟨b1,j,none⟩=some (.int .i8 x))(h2:∀j x,ys[j]?=some x→w.cell? ⟨b2,j,none⟩=some (.int .i8 x)) :
 Calls Tryz.prog 123 #[.slice (some ⟨b1,0,none⟩) n c1,.slice (some ⟨b2,0,none⟩) m c2] w fun e w'=>e = .returned (.int .i64 (cmpL xs ys))∧w=w':=by
 have H1:=Hd h1;have H2:=Hd h2;have HX:=Hd hx;have HY:=Hd hy;clear h1 h2 hx hy
 go_enter Tryz.func123,Tryz.ntmps123
 go_wp2_with fail
 go_loopw [5,6,7,8,11] (fun _ _ _ _ jv wr => ∃j:Nat,jv = .int .i64 j∧j≤n∧j≤m∧Hid (cmpL (xs.drop j) (ys.drop j)=cmpL xs ys)∧w=wr) (fun _ _ _ _ jv _=>n-(intOf jv).toNat)
 case atStart=>exact⟨0,rfl,Nat.zero_le _,Nat.zero_le _,by unfold Hid;simp,rfl⟩
 case round =>
  obtain⟨j,rfl,hjn,hjm,hc,rfl⟩:=hrel;by_cases hlt:j<n
  ·have hltI:decide ((j:Int)<(n:Int))=true:=decide_eq_true (by omega)
   obtain⟨x,hx⟩:∃x,xs[j]?=some x:=⟨_,List.getElem?_eq_getElem (by have:=HX.out;omega)⟩;have hcx:=H1.out j x hx;have i0:(0:Int)≤(j:Int):=by omega
   have i1:(j:Int)<(n:Int):=by omega
   by_cases hltm:j<m
   ·have hgeI:decide ((m:Int)≤(j:Int))=false:=decide_eq_false (by omega)
    obtain⟨y,hy⟩:∃y,ys[j]?=some y:=⟨_,List.getElem?_eq_getElem (by have:=HY.out;omega)⟩;have hcy:=H2.out j y hy;have i2:(j:Int)<(m:Int):=by omega
    have hst:=cmpL_step hx hy;have hcm:=cmp8_any x y w;have HC:=Hd hc;have HST:=Hd hst;clear hx hy hc hst;by_cases hxy:x<y
    ·rw[show cmp1 x y = -1 from if_pos hxy]at hcm
     have hres:cmpL xs ys = -1:=by rw[← HC.out,HST.out,if_pos hxy]
     have HRES:=Hd hres;clear hres hxy;go_wp2_with fail;refine hcm.mono ?_;rintro e w1 ⟨rfl,rfl⟩;go_wp2_with fail;go_ret;exact⟨by rw[HRES.out];rfl,rfl⟩
    ·by_cases hyx:y<x
     ·rw[show cmp1 x y=1 by unfold cmp1;rw[if_neg hxy,if_pos hyx]]at hcm
      have hres:cmpL xs ys=1:=by rw[← HC.out,HST.out,if_neg hxy,if_pos hyx]
      have HRES:=Hd hres;clear hres hxy hyx;go_wp2_with fail;refine hcm.mono ?_;rintro e w1 ⟨rfl,rfl⟩;go_wp2_with fail;go_ret;exact⟨by rw[HRES.out];rfl,rfl⟩
     ·rw[show cmp1 x y=0 by unfold cmp1;rw[if_neg hxy,if_neg hyx]]at hcm
      have HN:Hid (cmpL (xs.drop (j+1)) (ys.drop (j+1))=cmpL xs ys):=by unfold Hid;rw[← HC.out,HST.out,if_neg hxy,if_neg hyx]
      clear hxy hyx;go_wp2_with fail;refine hcm.mono ?_;rintro e w1 ⟨rfl,rfl⟩;go_wp2_with fail;go_roundw
      case rel=>exact⟨j+1,by go_num,hlt,hltm,HN,by first | rfl | trivial⟩
      case measure=>simp[intOf];omega
   ·obtain rfl:j=m:=by omega
    have hgeI:decide ((j:Int)≤(j:Int))=true:=decide_eq_true (by omega)
    have hres:cmpL xs ys=1:=by
     rw[← hc.out,show ys.drop j = [] from List.drop_eq_nil_iff.2 (by rw[HY.out];exact Nat.le_refl _)];obtain⟨h1,rfl⟩:=List.getElem?_eq_some_iff.1 hx;rw[List.drop_eq_getElem_cons h1];rfl
    have HRES:=Hd hres;clear hres hx hc;go_wp2_with fail;go_ret;exact⟨by rw[HRES.out];rfl,rfl⟩
  ·obtain rfl:j=n:=by omega
   have hltI:decide ((j:Int)<(j:Int))=false:=decide_eq_false (by omega);have hxn:xs.drop j = []:=List.drop_eq_nil_iff.2 (by rw[HX.out];exact Nat.le_refl _);by_cases hm2:j<m
   ·have hmI:decide ((j:Int)<(m:Int))=true:=decide_eq_true (by omega)
    have hres:cmpL xs ys = -1:=by
     rw[← hc.out,hxn];obtain⟨y,hy⟩:∃y,ys[j]?=some y:=⟨_,List.getElem?_eq_getElem (by have:=HY.out;omega)⟩;obtain⟨h1,rfl⟩:=List.getElem?_eq_some_iff.1 hy;rw[List.drop_eq_getElem_cons h1];rfl
    have HRES:=Hd hres;clear hres hc hxn;go_wp2_with fail;go_ret;exact⟨by rw[HRES.out];rfl,rfl⟩
   ·obtain rfl:j=m:=by omega
    have hres:cmpL xs ys=0:=by
     rw[← hc.out,hxn,show ys.drop j = [] from List.drop_eq_nil_iff.2 (by rw[HY.out];exact Nat.le_refl _)];rfl
    have HRES:=Hd hres;clear hres hc hxn;go_wp2_with fail;go_ret;exact⟨by rw[HRES.out];rfl,rfl⟩
def norm (t:List Int):List Int:=(List.range 6).map fun i=>max 0 (min 31 (t.getD i 0))
theorem norm_pad {n:Nat}{t:List Int}(h:Tpl_ n t):norm t=pad t:=by
 have h6:t.length≤6:=by rw[h.1];exact h.2.1
 apply List.ext_getElem?
 intro i;unfold norm wcp.pad;rw[List.getElem?_map];by_cases hi:i<6
 ·rw[List.getElem?_range hi]
  by_cases hl:i<t.length
  ·rw[List.getElem?_append_left hl,Option.map_some,List.getElem?_eq_getElem hl]
   have:=h.2.2 _ (List.getElem_mem hl);simp only[List.getD,List.getElem?_eq_getElem hl,Option.getD_some]
   congr 1
   omega
  ·rw[List.getElem?_append_right (by omega),List.getElem?_replicate,if_pos (by omega),Option.map_some]
   simp[List.getD,List.getElem?_eq_none (show t.length≤i by omega)];rfl
 ·rw[List.getElem?_eq_none (by simp;omega),List.getElem?_eq_none (by simp;omega)];rfl
theorem norm_len (t:List Int):(norm t).length=6:=by simp[norm]
def encK (t:List Int):List Value:=(norm t).map (Value.int .i8)
set_option maxRecDepth 100000 in
set_option maxHeartbeats 4000000 in
theorem lines1_any (x y:List Int)(w:World):Calls Tryz.prog 122 #[.agg (encK x).toArray,.agg (encK y).toArray] w fun e w'=>e = .returned (.int .i64 (cmpL (norm x) (norm y)))∧∃q os,w'=Sort.grow (w.drewN q) os:=by
 obtain⟨a0,a1,a2,a3,a4,a5,hx⟩:=six (norm_len x);obtain⟨b0,b1,b2,b3,b4,b5,hy⟩:=six (norm_len y);have ex:(encK x).toArray = #[.int .i8 a0,.int .i8 a1,.int .i8 a2,.int .i8 a3,.int .i8 a4,.int .i8 a5]:=by unfold encK;rw[hx];rfl
 have ey:(encK y).toArray = #[.int .i8 b0,.int .i8 b1,.int .i8 b2,.int .i8 b3,.int .i8 b4,.int .i8 b5]:=by unfold encK;rw[hy];rfl
 rw[ex,ey,hx,hy];obtain⟨w1,hw1⟩:∃w1,(w.alloc (.cells #[.int .i8 a0,.int .i8 a1,.int .i8 a2,.int .i8 a3,.int .i8 a4,.int .i8 a5] 166)).alloc (.cells #[.int .i8 b0,.int .i8 b1,.int .i8 b2,.int .i8 b3,.int .i8 b4,.int .i8 b5] 166)=w1:=⟨_,rfl⟩;have hB1:Blk w1 w.heap.size 166 #[.int .i8 a0,.int .i8 a1,.int .i8 a2,.int .i8 a3,.int .i8 a4,.int .i8 a5]:=by rw[← hw1];exact (Blk.new w _ _).alloc _
 have hB2:Blk w1 (w.heap.size+1) 166 #[.int .i8 b0,.int .i8 b1,.int .i8 b2,.int .i8 b3,.int .i8 b4,.int .i8 b5]:=by
  rw[← hw1];have:=Blk.new (w.alloc (.cells #[.int .i8 a0,.int .i8 a1,.int .i8 a2,.int .i8 a3,.int .i8 a4,.int .i8 a5] 166)) 166 #[.int .i8 b0,.int .i8 b1,.int .i8 b2,.int .i8 b3,.int .i8 b4,.int .i8 b5];rw[show (w.alloc (.cells #[.int .i8 a0,.int .i8 a1,.int .i8 a2,.int .i8 a3,.int .i8 a4,.int .i8 a5] 166)).heap.size=w.heap.size+1 by simp]at this;exact this
 have hc1:∀ (j:Nat) x,[a0,a1,a2,a3,a4,a5][j]?=some x→w1.drew.cell? ⟨w.heap.size,j,none⟩=some (.int .i8 x):=fun j x h=>(hB1.cell j).trans (by
  have:=congrArg (Option.map (Value.int .i8)) h;rw[← List.getElem?_map]at this
  simpa using this)
 have hc2:∀ (j:Nat) x,[b0,b1,b2,b3,b4,b5][j]?=some x→w1.drew.cell? ⟨w.heap.size+1,j,none⟩=some (.int .i8 x):=fun j x h=>(hB2.cell j).trans (by
  have:=congrArg (Option.map (Value.int .i8)) h;rw[← List.getElem?_map]at this
  simpa using this)
 have hcm:=compare8_any w.heap.size (w.heap.size+1) 6 6 6 6 _ _ w1.drew (by omega) (by omega) rfl rfl hc1 hc2
 have HW:Hid (w1.drew=Sort.grow (w.drewN 1) #[.cells #[.int .i8 a0,.int .i8 a1,.int .i8 a2,.int .i8 a3,.int .i8 a4,.int .i8 a5] 166,.cells #[.int .i8 b0,.int .i8 b1,.int .i8 b2,.int .i8 b3,.int .i8 b4,.int .i8 b5] 166]):=by
  rw[Hid,← hw1];simp only[Sort.alloc_eq_grow,Sort.grow_grow];rfl
 clear hc1 hc2 ex ey hx hy hB1 hB2
 go_enter Tryz.func122,Tryz.ntmps122
 go_wp2_with fail
 try rw[hw1]
 clear hw1
 go_region_held3 (fun _=>True) (trivial) (first | (go_at_call 123;refine hcm.mono ?_;rintro e w2 ⟨rfl,rfl⟩))
 all_goals
  clear hcm;go_wp2_with fail;go_ret;exact⟨rfl,1,_,HW.out⟩
end Go.Proofs.YtjpkkkphhaajgaaGreatDoor.wcp
namespace Go.Proofs.YtjpkkkphhaajgaaGreatDoor.wcp
open Go Go.RowKit Go.Shelf Go.ChangeShapes Go.WideShapes Go.ChangeAt Go.Maps Go.Proofs.YtjpkkkphhaajgaaGreatDoor.words Go.Proofs.YtjpkkkphhaajgaaGreatDoor.scn
theorem cmpL_strict {l m n:List Int}(h1:cmpL l m<0)(h2:cmpL m n<0):cmpL l n<0:=by
 by_cases h:cmpL l n<0
 ·exact h
 ·have h3:cmpL n l≤0:=by rw[cmpL_neg l n];omega
  have h4:=cmpL_trans h3 (show cmpL l m≤0 by omega);rw[cmpL_neg m n]at h4;omega
theorem cmpL_app:∀ {a b:List Int},a.length=b.length→∀r:List Int,cmpL (a++r) (b++r)=cmpL a b:=by
 intro a
 induction a with
 | nil=>intro b h r;cases b with
   |nil=>rw[List.nil_append];exact cmpL_self r
   |cons y b=>simp at h
 | cons x a ih=>intro b h r;cases b with
   |nil=>simp at h
   | cons y b =>
     rw[List.cons_append,List.cons_append];unfold cmpL;by_cases h1:x<y
     ·rw[if_pos h1,if_pos h1]
     ·rw[if_neg h1,if_neg h1]
      by_cases h2:y<x
      ·rw[if_pos h2,if_pos h2]
      ·rw[if_neg h2,if_neg h2];exact ih (by simpa using h) r
theorem cmp_norm {m:Nat}{a b:List Int}(ha:Tpl_ m a)(hb:Tpl_ m b):cmpL (norm a) (norm b)=cmpL a b:=by
 rw[norm_pad ha,norm_pad hb];unfold wcp.pad;rw[ha.1,hb.1];exact cmpL_app (by rw[ha.1,hb.1]) _
def leL (a b:List Int):Bool:=decide (cmpL a b≤0)
theorem leL_trans (a b c:List Int)(h1:leL a b=true)(h2:leL b c=true):leL a c=true:=by
 unfold leL at *;rw[decide_eq_true_eq]at *;exact cmpL_trans h1 h2
theorem leL_total (a b:List Int):(leL a b || leL b a)=true:=by
 unfold leL;rw[cmpL_neg a b];simp;omega
theorem leL_anti {a b:List Int}(h1:leL a b=true)(h2:leL b a=true):a=b:=by
 unfold leL at h1 h2;rw[cmpL_neg a b]at h2;rw[decide_eq_true_eq]at h1 h2;exact cmpL_eq (by omega)
def ordT (L:List (List Int)):List (List Int):=L.mergeSort leL
theorem ordT_perm (L:List (List Int)):(ordT L).Perm L:=List.mergeSort_perm L leL
theorem ordT_uniq {L M:List (List Int)}(h:M.Perm L)(hs:M.Pairwise fun a b=>leL a b=true):M=ordT L :=
 (h.trans (ordT_perm L).symm).eq_of_pairwise (le:=fun a b=>leL a b=true) (fun a b _ _ h1 h2=>leL_anti h1 h2) hs (List.pairwise_mergeSort leL_trans leL_total L)
def cfK (x y:List Int):Int:=cmpL (norm x) (norm y)
theorem swoK:Sort.SWO (ltOf cfK) where
 irrefl x:=by unfold ltOf cfK;rw[cmpL_self];rfl
 trans x y z h1 h2:=by unfold ltOf cfK at *;rw[decide_eq_true_eq]at *;exact cmpL_strict h1 h2
 ntrans x y z h1 h2:=by
  unfold ltOf cfK at *;rw[decide_eq_false_iff_not]at *;have h3:cmpL (norm y) (norm x)≤0:=by rw[cmpL_neg (norm x) (norm y)];omega
  have h4:cmpL (norm z) (norm y)≤0:=by rw[cmpL_neg (norm y) (norm z)];omega
  have h5:=cmpL_trans h4 h3;rw[cmpL_neg (norm x) (norm z)]at h5;omega
theorem encK_kc {m:Nat}{t:List Int}(h:Tpl_ m t):encK t=kc t:=by unfold encK kc;rw[norm_pad h]
theorem flat_kc {m:Nat}{L:List (List Int)}(h:∀t∈L,Tpl_ m t):L.flatMap encK=kcells L:=by
 unfold kcells
 induction L with
 |nil=>rfl
 |cons t L ih=>rw[List.flatMap_cons,List.flatMap_cons,encK_kc (h t (by simp)),ih fun u hu=>h u (by simp[hu])]
set_option maxRecDepth 100000 in
theorem sortK_any {B n c m:Nat}{A:Option Addr}{L:List (List Int)}{w:World}(h:w.ownsRow B 166 6 (.slice A n c) n (kcells L))(hl:L.length=n)(hL:∀t∈L,Tpl_ m t)(hn:n≤1000000) :
 Calls Tryz.prog 167 #[.slice A n c,.func (.func 122) #[] #[]] w fun e w'=>e = .returned (.tuple #[])∧w'.ownsRow B 166 6 (.slice A n c) n (kcells (ordT L))∧Tch w w' (OnlyOwn (.slice A n c)):=by
 by_cases hn0:n=0
 ·subst hn0
  have hL0:L = []:=List.eq_nil_of_length_eq_zero hl;subst hL0;refine (AnyF.slices_SortFunc_none Tryz.sortKey A c _ w).mono ?_;rintro e w' ⟨rfl,rfl⟩;exact⟨rfl,by rw[show ordT [] = [] by simp[ordT]];exact h,Tch.refl _ _⟩
 ·obtain⟨g,rfl,hgb,hgl⟩:=own_some h (by omega)
  have hk:∀x,(encK x).length=6:=fun x=>by unfold encK;rw[List.length_map,norm_len]
  rw[← flat_kc hL]at h;have hH:=holdsK_own hk (by omega) h hl;have hs:L.toArray.size=n:=by simpa using hl
  have hcmp:CmpLays Tryz.prog 122 #[] encK 6 cfK g 0 L.toArray.size w:=fun m os dk hdk x y=>by
   have:=lines1_any x y (sortWorldK encK 6 w g 0 m dk os);exact this
  have hq:=AnyQ.slices_SortFunc Tryz.sortKey 6 Tryz.isAgg166 Tryz.sizeOf166 encK hk (fun x v hv=>by unfold encK at hv;obtain⟨z,-,rfl⟩:=List.mem_map.1 hv;rfl) cfK swoK 122 #[] g 0 c L.toArray w (enters_of Tryz.func122 (by kernel_rfl) rfl) hcmp hH hgl (by omega);rw[hs]at hq;refine hq.mono ?_;rintro e w' ⟨rfl,d',k,os,hp,hso,rfl⟩
  have hpl:d'.toList.Perm L:=by
   have:=hp.2.2;have hd:=hp.1;simp at this
   rwa [List.take_of_length_le (by simp;omega),List.take_of_length_le (by omega)]at this
  have hall:∀t∈d'.toList,Tpl_ m t:=fun t ht=>hL t (hpl.mem_iff.1 ht)
  have hdl:d'.toList.length=n:=by rw[hpl.length_eq,hl]
  obtain⟨h1,h2⟩:=own_sortK (m:=k) (os:=os) (l':=d'.toList) hk (by omega) h hdl
  have hord:d'.toList=ordT L:=by
   refine ordT_uniq hpl ?_;rw[List.pairwise_iff_getElem];intro i j hi hj hij;have:=hso i j (Nat.zero_le _) hij (by omega);rw[getElem!_pos _ i (by simpa using hi),getElem!_pos _ j (by simpa using hj)]at this;unfold ltOf cfK at this;rw[decide_eq_false_iff_not,cmp_norm (m:=m) (hall _ (by simp)) (hall _ (by simp))]at this;unfold leL;rw[decide_eq_true_eq,cmpL_neg (d'.toList[j]) (d'.toList[i])];simp only[Array.getElem_toList]at this ⊢;omega
  rw[show d'.toList.toArray=d' by simp]at h1 h2;refine⟨rfl,?_,h2.mono fun i _ e=>by subst e;rfl⟩;rw[flat_kc hall,hord]at h1;exact h1
theorem sortedK_any (gb b nn m:Nat)(D:DataW Unit)(hD:∀kl,Maps.has D kl=true→∃t,Tpl_ m t∧kl=keyL (pad t))(w:World)(hN:Maps.size D≤1000000)(hb:Blk w gb 101 #[.map (some b)])(hown:w.ownsMap Tryz.prog 166 (plainElem Tryz.prog 2) b nn D) :
 Calls Tryz.prog 124 #[.func (.func 168) #[] #[.pointer (some ⟨gb,0,none⟩)],.func (.func 122) #[] #[]] w fun e w' => ∃L A' c',KeysOf m D L∧L.length≤Maps.size D∧e = .returned (.slice A' L.length c')∧w'.ownsRow w.heap.size 166 6 (.slice A' L.length c') L.length (kcells (ordT L))∧Below w.heap.size w w':=by
 have h:=collK_any gb b nn m D hD w hN hb hown;clear hb hown
 go_enter Tryz.func124,Tryz.ntmps124
 go_wp2_with fail;refine h.mono ?_;rintro e w1 ⟨L,A1,c1,hK,hl,rfl,ho,hB⟩;have hs:=sortK_any ho rfl (fun t ht=>((hK.2 t).1 ht).1) (by omega);have HK:=Hd hK;have HL:=Hd hl;have HB:=Hd hB;have HO:=Hd ho;clear h hK hl hB ho;go_wp2_with fail;refine hs.mono ?_;rintro e w2 ⟨rfl,ho2,hT⟩;clear hs;go_wp2_with fail;go_ret;exact⟨L,A1,c1,HK.out,HL.out,rfl,ho2,HB.out.trans (hT.below HB.out.size fun i hi h=>by have:=(own_in HO.out h).1;omega)⟩
def TLRow (w:World)(base:Nat)(v:Value)(L:List LT):Prop:=(∃A c,v = .slice A L.length c)∧w.ownsRow base 111 2 v L.length (lcells L)∧∀p∈L,RowI w base p.1 p.2.1
def TLines (w:World)(base:Nat)(v:Value)(ls:List (List Int × Int)):Prop := ∃L:List LT,L.map (·.2)=ls∧TLRow w base v L
theorem RowI.tch {w w':World}{base:Nat}{v:Value}{xs:List Int}{S:Nat→Prop}(h:RowI w base v xs)(ht:Tch w w' S)(ho:Off w base S 3):RowI w' base v xs:=⟨h.1,own_off h.2 ht ho⟩
theorem TLRow.tch {w w':World}{base:Nat}{v:Value}{L:List LT}{S:Nat→Prop}(h:TLRow w base v L)(ht:Tch w w' S)(h1:Off w base S 3)(h2:Off w base S 111):TLRow w' base v L :=
 ⟨h.1,own_off h.2.1 ht h2,fun p hp=>(h.2.2 p hp).tch ht h1⟩
theorem TLRow.under {w w':World}{base:Nat}{v:Value}{L:List LT}(h:TLRow w base v L)(hb:Below w.heap.size w w'):TLRow w' base v L :=
 h.tch (Tch.of_below hb fun _=>False) (fun _ h=>h.elim) fun _ h=>h.elim
structure DomT (T:TpH) (L:List (List Int)):Prop where
 nd:L.Nodup
 mem:∀t,t∈L↔Tpl_ T.sizes.length t∧(T.f t).isSome=true
 ord:ordT L=L
def linesT (T:TpH)(L:List (List Int)):List (List Int × Int):=L.map fun t=>(t,(T.f t).getD 0)
theorem infoLn:(Tryz.prog.info? 111).map (fun i=>(i.zero,i.size,i.bytes))=some (some (.agg #[.slice none 0 0,.int .i64 0]),2,32):=by kernel_rfl
theorem zeroI64 (w:World):(zeroValue 2).run Tryz.prog w = .ok (.int .i64 0) w:=by kernel_rfl
theorem line_next {W W3:World}{B g:Nat}{At:Option Addr}{k ct:Nat}{u:Value}{xs:List Value}{o:Obj}(hb:Blk W g 111 #[.slice At k ct,u])(ho:W.ownsRow B 3 1 (.slice At k ct) k xs)
 (hg:(W.alloc o).grownBy W3 (Value.slice At k ct).ownBlock):Blk W3 g 111 #[.slice At k ct,u]:=by
 have h1:Blk (W.alloc o) g 111 #[.slice At k ct,u]:=hb.alloc _;refine h1.grown hg fun e=>?_
 exact own_blk_ne ho hb (by decide) e.symm
theorem kc_at {m:Nat}{M:List (List Int)}(hM:∀t∈M,Tpl_ m t){i j:Nat}{t:List Int}(h:M[i]?=some t)(hj:j<6):(kcells M)[i*6+j]?=(kc t)[j]?:=by
 induction M generalizing i with
 |nil=>simp at h
 | cons u M ih =>
   have hu:(kc u).length=6:=kc_len (hM u (by simp)).pad.1;unfold kcells;rw[List.flatMap_cons]
   cases i with
   | zero =>
     obtain rfl:u=t:=by simpa using h
     rw[Nat.zero_mul,Nat.zero_add,List.getElem?_append_left (by omega)]
   | succ i =>
     rw[List.getElem?_append_right (by omega),hu,show (i+1)*6+j-6=i*6+j by omega];exact ih (fun t ht=>hM t (by simp[ht])) (by simpa using h)
set_option maxRecDepth 100000 in
set_option maxHeartbeats 8000000 in
theorem tlines_any {w:World}{g n:Nat}{F:Nat→Prop}{T:TpH}(hT:TpV w g F n T)(h6:T.sizes.length≤6)(hn:n≤100000) :
 Calls Tryz.prog 55 #[.pointer (some ⟨g,0,none⟩)] w fun e w' => ∃v L,e = .returned v∧DomT T L∧TLines w' w.heap.size v (linesT T L)∧L.length≤n∧Below w.heap.size w w':=by
 obtain⟨hg,A,c,mb,D,hb,ho,hf,hm,hmb,hd⟩:=hT;have hsz:=hm.size_le;obtain⟨iI,hI0,hI1,hI2,hI3⟩:=info_parts infoI;obtain⟨iL,hL0,hL1,hL2,hL3⟩:=info_parts infoLn;have hkm:=keysM_any (some mb) w;obtain⟨w1,hw1⟩:∃w1,w.alloc (.cells #[.map (some mb)] 101)=w1:=⟨_,rfl⟩;have hB1:Below w.heap.size w w1:=by rw[← hw1];exact bone w _
 have hb1:Blk w1 w.heap.size 101 #[.map (some mb)]:=by rw[← hw1];exact Blk.new _ _ _
 have hm1:=map_tch hm (Tch.of_below hB1 fun _=>False) fun h=>h
 have hsk:=sortedK_any w.heap.size mb n T.sizes.length D hd.2 w1 (by omega) hb1 hm1;obtain⟨q0,q1,q2,q3,-⟩:=Blk.four (t:=103) hb;rw[hw1]at hkm;have HB:=Hd hb;have HO:=Hd ho;have HM:=Hd hm;have HD:=Hd hd;have HB1:=Hd hB1;have HSZ:=Hd hsz;clear hb ho hm hd hB1 hb1 hm1 hw1 hsz
 go_enter Tryz.func55,Tryz.ntmps55
 go_wp2_with fail;refine hkm.mono ?_;rintro e w2 ⟨rfl,rfl⟩;clear hkm;go_wp2_with fail;refine hsk.mono ?_;rintro e w2 ⟨L,A2,c2,hK,hl,rfl,ho2,hB2⟩;clear hsk;go_wp2_with fail;obtain⟨M,hM⟩:∃M,ordT L=M:=⟨_,rfl⟩;have hML:M.length=L.length:=by rw[← hM];exact (ordT_perm L).length_eq
 have hMp:∀t,t∈M↔Tpl_ T.sizes.length t∧Maps.has D (keyL (pad t))=true:=fun t=>by rw[← hM,(ordT_perm L).mem_iff];exact hK.2 t
 have hMn:M.Nodup:=by rw[← hM];exact (ordT_perm L).nodup_iff.2 hK.1
 have hMo:ordT M=M:=by rw[← hM];exact (ordT_uniq (List.Perm.refl _) (List.pairwise_mergeSort leL_trans leL_total L)).symm
 rw[hM,← hML]at ho2;have hMt:∀t∈M,Tpl_ T.sizes.length t:=fun t ht=>((hMp t).1 ht).1
 have hB02:Below w.heap.size w w2:=bto HB1.out hB2;have HMM:=Hd (And.intro hMn (And.intro hMp hMo));have HMT:=Hd hMt;have HO2:=Hd ho2;have HB02:=Hd hB02;rw[← hML]at hl ⊢;have hM1:M.length≤100000:=by have:=HSZ.out;omega
 clear hK hM hML hMp hMn hMo ho2 hMt hB02 hB2
 go_loopw [3,6,7,9,20] (fun ov _ _ _ jv wr => ∃ (i:Nat) (R:List LT) (Ao:Option Addr) (co:Nat),jv = .int .i64 i∧i≤M.length∧ov = .slice Ao R.length co∧Hid (R.map (·.2)=(linesT T M).take i)∧R.length=i∧Hid (TLRow wr w2.heap.size (.slice Ao R.length co) R)∧Hid (Below w2.heap.size w2 wr)) (fun _ _ _ _ jv _=>M.length-(intOf jv).toNat)
 case atStart=>exact⟨0,[],none,0,rfl,Nat.zero_le _,rfl,by unfold Hid;simp,rfl,⟨⟨none,0,rfl⟩,World.ownsRow_nil _ _ _ _,fun p hp=>by simp at hp⟩,Below.refl _ _⟩
 case round =>
  obtain⟨i,R,Ao,co,rfl,hi,rfl,hR,hRi,hrow,hbr⟩:=hrel;obtain⟨wo,hwo⟩:∃wo,wo=wr:=⟨_,rfl⟩;subst hwo;have HRI:=Hd hRi;clear hRi;by_cases hlt:i<M.length
  ·have hltI:decide ((i:Int)<(M.length:Int))=true:=decide_eq_true (by omega)
   obtain⟨t,ht⟩:∃t,M[i]?=some t:=⟨_,List.getElem?_eq_getElem hlt⟩;have htp:=HMT.out t (List.mem_of_getElem? ht);obtain⟨a0,a1,a2,a3,a4,a5,hpd⟩:=six htp.pad.1;have hkc:kc t = [.int .i8 a0,.int .i8 a1,.int .i8 a2,.int .i8 a3,.int .i8 a4,.int .i8 a5]:=by unfold kc;rw[hpd];rfl
   have hkv:keyV (pad t) = .agg #[.int .i8 a0,.int .i8 a1,.int .i8 a2,.int .i8 a3,.int .i8 a4,.int .i8 a5]:=by rw[hpd];rfl
   have hkey:keyOf Tryz.prog 166 (.agg #[.int .i8 a0,.int .i8 a1,.int .i8 a2,.int .i8 a3,.int .i8 a4,.int .i8 a5])=some (keyL (pad t)):=by rw[← hkv];exact keyOf6 htp.pad.1 htp.pad.2
   obtain⟨ga,e0,hga,hgl⟩:=own_some HO2.out (by omega);subst e0;have hkr:=own_under HO2.out hbr.out;have hgl2:=hgl;have y0:wo.cell? ⟨ga,i*6+0,none⟩=some (.int .i8 a0):=(hkr.cellAt (i*6+0) (by omega)).trans ((kc_at HMT.out ht (by omega)).trans (by rw[hkc];rfl));have y1:wo.cell? ⟨ga,i*6+1,none⟩=some (.int .i8 a1):=(hkr.cellAt (i*6+1) (by omega)).trans ((kc_at HMT.out ht (by omega)).trans (by rw[hkc];rfl));have y2:wo.cell? ⟨ga,i*6+2,none⟩=some (.int .i8 a2):=(hkr.cellAt (i*6+2) (by omega)).trans ((kc_at HMT.out ht (by omega)).trans (by rw[hkc];rfl));have y3:wo.cell? ⟨ga,i*6+3,none⟩=some (.int .i8 a3):=(hkr.cellAt (i*6+3) (by omega)).trans ((kc_at HMT.out ht (by omega)).trans (by rw[hkc];rfl));have y4:wo.cell? ⟨ga,i*6+4,none⟩=some (.int .i8 a4):=(hkr.cellAt (i*6+4) (by omega)).trans ((kc_at HMT.out ht (by omega)).trans (by rw[hkc];rfl));have y5:wo.cell? ⟨ga,i*6+5,none⟩=some (.int .i8 a5):=(hkr.cellAt (i*6+5) (by omega)).trans ((kc_at HMT.out ht (by omega)).trans (by rw[hkc];rfl));rw[Nat.add_zero]at y0;have i0:(0:Int)≤(i:Int):=by omega
   have i1:(i:Int)<(M.length:Int):=by omega
   have HTP:=Hd htp;have HT:=Hd ht;have HPD:=Hd hpd;clear ht htp hpd hkr hkc hkv;go_upto_region 8 with fail;clear y0 y1 y2 y3 y4 y5;obtain⟨wk,hwk⟩:∃wk,(wo.alloc (.cells #[.int .i8 a0,.int .i8 a1,.int .i8 a2,.int .i8 a3,.int .i8 a4,.int .i8 a5] 166))=wk:=⟨_,rfl⟩;have hBk:Below wo.heap.size wo wk:=by rw[← hwk];exact bone wo _
   have hK0:Blk wk wo.heap.size 166 #[.int .i8 a0,.int .i8 a1,.int .i8 a2,.int .i8 a3,.int .i8 a4,.int .i8 a5]:=by rw[← hwk];exact Blk.new _ _ _
   have hB0k:Below w.heap.size w wk:=bto (bto HB02.out hbr.out) hBk;obtain⟨x0,x1,x2,x3,x4,x5,-⟩:=Blk.six (t:=166) hK0;have p3:=(Blk.four (t:=103) (HB.out.under hB0k)).2.2.2.1;have hMk:=map_tch HM.out (Tch.of_below hB0k fun _=>False) fun h=>h
   obtain⟨v1,e1,hat1,hwv1⟩:=hMk.drew.lookup_int keyed6 Tryz.underlying101 Tryz.underlying2 (zeroI64 _) hkey;obtain⟨v2,e2,hat2,-⟩:=(hMk.alloc (.cells #[.slice none 0 0,.int .i64 0] 111)).drew.lookup_int keyed6 Tryz.underlying101 Tryz.underlying2 (zeroI64 _) hkey;rw[hwk];obtain⟨vt,hvt⟩:∃vt,(T.f t).getD 0=vt:=⟨_,rfl⟩
   have hfv:v1=vt∧v2=vt:=by
    obtain⟨h1,h2⟩:=HD.out.1 t HTP.out;rw[((HMM.out.2.1 t).1 (List.mem_of_getElem? HT.out)).2]at h1;obtain⟨cv,hcv⟩:=Option.isSome_iff_exists.1 h1.symm;have h3:=h2 cv hcv (.lit (.int .i64 0));rw[hcv]at hvt;rw[h3]at hat1 hat2;injection hat1 with hat1
    injection hat2 with hat2
    injection hat1 with _ hat1
    injection hat2 with _ hat2
    exact⟨hat1.symm.trans hvt,hat2.symm.trans hvt⟩
   obtain⟨rfl,rfl⟩:=hfv;have HVT:=Hd hvt;have HK0:=Hd hK0;have HBK:=Hd hBk;have HB0K:=Hd hB0k
   have HSF:Hid (∀W,Below wk.heap.size wk W→(W.cell? ⟨g,3,none⟩=some (.map (some mb))∧W.cell? ⟨wo.heap.size,0,none⟩=some (.int .i8 a0)∧W.cell? ⟨wo.heap.size,1,none⟩=some (.int .i8 a1)∧W.cell? ⟨wo.heap.size,2,none⟩=some (.int .i8 a2)∧W.cell? ⟨wo.heap.size,3,none⟩=some (.int .i8 a3)∧W.cell? ⟨wo.heap.size,4,none⟩=some (.int .i8 a4)∧W.cell? ⟨wo.heap.size,5,none⟩=some (.int .i8 a5))):=by
    intro W hW;obtain⟨x0,x1,x2,x3,x4,x5,-⟩:=Blk.six (t:=166) (HK0.out.under hW);exact⟨(Blk.four (t:=103) (HB.out.under (bto HB0K.out hW))).2.2.2.1,x0,x1,x2,x3,x4,x5⟩
   clear hwk hK0 hBk hB0k hMk hat1 hat2 hwv1 hvt;obtain⟨wl,hwl⟩:∃wl,(wk.alloc (.cells #[.slice none 0 0,.int .i64 v2] 111)).drew=wl:=⟨_,rfl⟩;have HWL:=Hd hwl;clear hwl
   go_cut [7] (fun v wq=>v = .pointer (some ⟨wk.heap.size,0,none⟩)∧wl=wq)
   case first =>
    go_region_held3 (fun W=>W.cell? ⟨g,3,none⟩=some (.map (some mb))∧W.cell? ⟨wo.heap.size,0,none⟩=some (.int .i8 a0)∧W.cell? ⟨wo.heap.size,1,none⟩=some (.int .i8 a1)∧W.cell? ⟨wo.heap.size,2,none⟩=some (.int .i8 a2)∧W.cell? ⟨wo.heap.size,3,none⟩=some (.int .i8 a3)∧W.cell? ⟨wo.heap.size,4,none⟩=some (.int .i8 a4)∧W.cell? ⟨wo.heap.size,5,none⟩=some (.int .i8 a5)) (first | exact⟨p3,x0,x1,x2,x3,x4,x5⟩ | exact HSF.out (wk.alloc (.cells #[.slice none 0 0,.int .i64 0] 111)) (bone _ _) | exact HSF.out (wk.alloc (.cells #[.slice none 0 0,.int .i64 v2] 111)) (bone _ _)) (fail)
    all_goals
     go_wp2_with fail
     go_meet
     case rel=>exact⟨rfl,by rw[HWL.out]⟩
   case rest =>
    obtain⟨rfl,rfl⟩:=hcut;clear p3 x0 x1 x2 x3 x4 x5 e1 e2;have hBl:Below wk.heap.size wk wl:=by rw[← HWL.out];exact below_drewN (bone wk _) 1
    have hLB:Blk wl wk.heap.size 111 #[.slice none 0 0,.int .i64 v2]:=by rw[← HWL.out];exact (Blk.new wk _ _).drew
    have hKl:=HK0.out.under hBl;obtain⟨q0,q1,q2,q3,-⟩:=Blk.four (t:=103) (HB.out.under (bto HB0K.out hBl));have HBL:=Hd hBl;have HLB:=Hd hLB;have HKL:=Hd hKl;obtain⟨m,hm⟩:∃m,T.sizes.length=m:=⟨_,rfl⟩;have hm6:m≤6:=by omega
    have hmI:(m:Int)≤6:=by omega
    have hm0:(0:Int)≤(m:Int):=by omega
    have HM6:=Hd hm;rw[hm]at q0;clear hBl hLB hKl hm;go_wp2_with fail;have htl:t.length=m:=by rw[HTP.out.1];exact HM6.out
    have HTL:=Hd htl;clear htl
    go_loopw [9,38] (fun _ jv wy => ∃ (j:Nat) (At:Option Addr) (ct:Nat),jv = .int .i64 j∧j≤m∧Hid (Blk wy wk.heap.size 111 #[.slice At j ct,.int .i64 v2])∧Hid (wy.ownsRow wl.heap.size 3 1 (.slice At j ct) j (nums (t.take j)))∧Hid (Tch wl wy fun q=>q=wk.heap.size)) (fun _ jv _=>m-(intOf jv).toNat)
    case atStart=>exact⟨0,none,0,rfl,Nat.zero_le _,HLB.out,World.ownsRow_nil _ _ _ _,Tch.refl _ _⟩
    case round =>
     clear q0 q1 q2 q3;obtain⟨j,At,ct,rfl,hj,hlb,hot,htc⟩:=hrel;by_cases hjm:j<m
     ·have hjI:decide ((j:Int)<(m:Int))=true:=decide_eq_true (by omega)
      obtain⟨v,hv⟩:∃v,t[j]?=some v:=⟨_,List.getElem?_eq_getElem (by have:=HTL.out;omega)⟩;have hv32:=HTP.out.2.2 v (List.mem_of_getElem? hv)
      have hvc:wr.cell? ⟨wo.heap.size,j,none⟩=some (.int .i8 v):=by
       have h1:=(htc.out.blk HKL.out (by have:=HK0.out.lt;omega)).cell j;have h2:(pad t)[j]?=some v:=by unfold wcp.pad;rw[List.getElem?_append_left (by have:=HTL.out;omega)];exact hv
       rw[HPD.out]at h2;rw[h1];have:=congrArg (Option.map (Value.int .i8)) h2;rw[← List.getElem?_map]at this
       simpa using this
      obtain⟨c0,c1⟩:=Blk.two (t:=111) hlb.out;have cf:=hlb.out.frozen 0;have hA1:=hot.out.alloc (.cells #[.int .i64 v] 3);have hr1:Reads (wr.alloc (.cells #[.int .i64 v] 3)) (wr.alloc (.cells #[.int .i64 v] 3)).heap.size 1 (some ⟨wr.heap.size,0,none⟩) 1 (nums [v]):=reads_block (t:=3) (heap_alloc_new _ _) rfl;have hsy:=htc.out.size;have HV:=Hd hv;clear hv;have HOT:=hot;have HLBY:=hlb;have HTC:=htc;clear hot hlb htc;have iv0:(0:Int)≤(j:Int):=by omega
      have iv1:(j:Int)<(m:Int):=by omega
      go_wp2_with (first
       |(at_builtin;refine wpList_append_any _ rfl (.tmp 43) (.tmp 46) _ rfl wl.heap.size 3 iI _ 1 8 Tryz.underlying31 hI0 hI1 hI2 hI3 rfl (by omega) (.slice At j ct) j _ rfl hA1 (wr.alloc (.cells #[.int .i64 v] 3)).heap.size (some ⟨wr.heap.size,0,none⟩) 1 1 (nums [v]) rfl hr1 nums_one (by simp only[maxLen];omega) (by omega) (by simp;omega) ?_;intro v6 w6 hown6 hg6 hat6;clear hat6;obtain⟨A6,c6,rfl⟩:=own_shape hown6;have hlb6:=line_next HLBY.out HOT.out hg6;obtain⟨d0,d1⟩:=Blk.two (t:=111) hlb6;have df:=hlb6.frozen 0;have HO6:=Hd hown6;have HG6:=Hd hg6;have HLB6:=Hd hlb6;clear hown6 hg6 hA1 hr1 hlb6)
       |fail)
      go_roundw
      case measure=>simp[intOf];omega
      case rel =>
       have T1:Tch wr (w6.setCell ⟨wk.heap.size,0,none⟩ (.slice A6 (j+1) c6)) (fun q=>(Value.slice At j ct).ownBlock=some q∨q=wk.heap.size):=((Tch.of_below (bone wr (.cells #[.int .i64 v] 3)) _).trans (Tch.of_grown HG6.out (S:=fun q=>(Value.slice At j ct).ownBlock=some q∨q=wk.heap.size) fun q _ e => .inl e.symm) fun _ _ h=>h).put (p:=⟨wk.heap.size,0,none⟩) _ (.inr rfl);refine⟨j+1,A6,c6,by go_num,by omega,HLB6.out.set_ 0 _,?_,HTC.out.trans T1 fun q hq h=>?_⟩
       ·rw[Hid,take_snocI HV.out,show nums (t.take j ++ [v])=nums (t.take j)++nums [v] by simp[nums]]
        exact (Tch.set_ w6 (S:=fun q=>q=wk.heap.size) (p:=⟨wk.heap.size,0,none⟩) (.slice A6 (j+1) c6) rfl).own HO6.out fun q hq e=>own_blk_ne HO6.out HLB6.out (by decide) (e ▸ hq)
       ·rcases h with h | h
        ·have:=(own_in HOT.out h).1;omega
        ·exact h
     ·obtain rfl:j=m:=by omega
      have hjI:decide ((j:Int)<(j:Int))=false:=decide_eq_false (by omega);obtain⟨c0,c1⟩:=Blk.two (t:=111) hlb.out
      have hto:wr.ownsRow wl.heap.size 3 1 (.slice At j ct) j (nums t):=by
       have:=hot.out
       rwa [List.take_of_length_le (by have:=HTL.out;omega)]at this
      have hs2:w2.heap.size≤wo.heap.size:=hbr.out.size;have hs3:wo.heap.size≤wk.heap.size:=HBK.out.size;have hs4:wk.heap.size≤wl.heap.size:=HBL.out.size;have hs5:wl.heap.size≤wr.heap.size:=htc.out.size;have hTo:Below wo.heap.size wo wr:=(bto HBK.out HBL.out).trans (htc.out.below (by omega) fun q hq e=>by omega);have hrow2:=hrow.out.under hTo;have hrr:=hrow2.2.1;have hA1:=hrr.alloc (.cells #[.slice At j ct,.int .i64 v2] 111);have hr1:Reads (wr.alloc (.cells #[.slice At j ct,.int .i64 v2] 111)) (wr.alloc (.cells #[.slice At j ct,.int .i64 v2] 111)).heap.size 2 (some ⟨wr.heap.size,0,none⟩) 1 [.slice At j ct,.int .i64 v2]:=reads_two (t:=111) (heap_alloc_new _ _);have HTO:=Hd hto;have HROW2:=Hd hrow2;have HTO2:=Hd hTo;have hRl:R.length≤100000:=by have:=HRI.out;omega
      clear hot hlb htc hto hrow2 hrr hTo
      go_wp2_with (first
       |(at_builtin;refine wpList_append_any _ rfl (.tmp 50) (.tmp 52) _ rfl w2.heap.size 111 iL _ 2 32 Tryz.underlying108 hL0 hL1 hL2 hL3 rfl (by omega) (.slice Ao R.length co) R.length _ rfl hA1 (wr.alloc (.cells #[.slice At j ct,.int .i64 v2] 111)).heap.size (some ⟨wr.heap.size,0,none⟩) 1 1 [.slice At j ct,.int .i64 v2] rfl hr1 (fun u hu=>by simp at hu;rcases hu with rfl | rfl<;>rfl) (by simp only[maxLen];omega) (by omega) (by simp;omega) ?_;intro v6 w6 hown6 hg6 hat6;clear hat6;obtain⟨A6,c6,rfl⟩:=own_shape hown6;have HO6:=Hd hown6;have HG6:=Hd hg6;clear hown6 hg6 hA1 hr1)
       |fail)
      go_roundw
      case measure=>simp[intOf];omega
      case rel =>
       have T1:Tch wr w6 (fun q=>(Value.slice Ao R.length co).ownBlock=some q):=((Tch.of_below (bone wr (.cells #[.slice At j ct,.int .i64 v2] 111)) _).trans (Tch.of_grown HG6.out (S:=fun q=>(Value.slice Ao R.length co).ownBlock=some q) fun q _ e=>e.symm) fun _ _ h=>h);have hlen:(R ++ [((.slice At j ct:Value),t,v2)]).length=R.length+1:=by simp
       refine⟨i+1,R ++ [(.slice At j ct,t,v2)],A6,c6,by go_num,by omega,by rw[hlen],?_,by rw[hlen,HRI.out],⟨⟨A6,c6,rfl⟩,?_,fun p hp=>?_⟩,?_⟩
       ·unfold Hid
        rw[List.map_append,hR.out,List.take_add_one]
        congr 1
        unfold linesT;rw[List.getElem?_map,HT.out];simp[HVT.out]
       ·rw[hlen,lc_snoc]
        exact HO6.out
       ·rcases List.mem_append.1 hp with hp | hp
        ·exact (HROW2.out.2.2 p hp).tch T1 fun q hq => .inr fun cs hb=>own_blk_ne HROW2.out.2.1 hb (by decide) hq
        ·rw[List.mem_singleton.1 hp]
         have htl:t.length=j:=HTL.out;refine⟨⟨At,ct,by rw[htl]⟩,?_⟩
         have h1:=T1.own HTO.out fun q hq h=>by
          obtain⟨cs,hc⟩:=own_is HTO.out hq;exact own_blk_ne HROW2.out.2.1 hc (by decide) h
         rw[htl];exact own_base h1 (by omega)
       ·exact (hbr.out.trans (HTO2.out.mono hs2)).trans (T1.below (by omega) fun q hq h=>by have:=(own_in HROW2.out.2.1 h).1;omega)
  ·obtain rfl:i=M.length:=by omega
   have hltI:decide ((M.length:Int)<(M.length:Int))=false:=decide_eq_false (by omega);go_wp2_with fail;go_ret;refine⟨_,M,rfl,⟨HMM.out.1,fun t=>?_,HMM.out.2.2⟩,⟨R,?_,?_⟩,by have:=HSZ.out;omega,bto HB02.out hbr.out⟩
   ·rw[HMM.out.2.1 t]
    exact⟨fun h=>⟨h.1,by rw[← (HD.out.1 t h.1).1];exact h.2⟩,fun h=>⟨h.1,by rw[(HD.out.1 t h.1).1];exact h.2⟩⟩
   ·rw[hR.out,List.take_of_length_le (by simp[linesT])]
   ·have hs:=HB02.out.size
    exact⟨⟨Ao,co,rfl⟩,own_base hrow.out.2.1 hs,fun p hp=>⟨(hrow.out.2.2 p hp).1,own_base (hrow.out.2.2 p hp).2 hs⟩⟩
structure CpW (w5:World) (g2:Nat) (f:Fil) (A4:Option Addr) (c4:Nat) (l:List Raw) (j:Nat) (V2:List FT) (F2:Option Addr) (f2c:Nat) (wr:World):Prop where
 map:V2.map (·.2.2.2)=l.take j
 blk:Blk wr g2 34 #[strV f.name,.int .i64 f.k,.slice A4 f.sizes.length c4,.slice F2 V2.length f2c]
 row:wr.ownsRow (g2+1) 37 2 (.slice F2 V2.length f2c) V2.length (fcells V2)
 fs:∀p∈V2,FunV wr (fun k=>p.2.1≤k∧k<p.2.2.1) p.1 p.2.2.2 f.k
 tch:Tch w5 wr (fun q=>q=g2)
theorem CpW.push {w5 wr w8 w9:World}{g2:Nat}{f:Fil}{A4:Option Addr}{c4:Nat}{l:List Raw}{j:Nat}{V2:List FT}{F2 A10:Option Addr}{f2c c10 lo tg:Nat}{v1:Value}{y:Raw}(h:CpW w5 g2 f A4 c4 l j V2 F2 f2c wr)(hy:l[j]?=some y)(hg5:w5.heap.size=g2+1)(hb1:Below wr.heap.size wr w8)
 (hfv:FunV w8 (fun k=>lo≤k∧k<w8.heap.size) (.agg #[v1,.pointer (some ⟨tg,0,none⟩)]) y f.k) (hg:w8.grownBy w9 (Value.slice F2 V2.length f2c).ownBlock) (ho:w9.ownsRow (g2+1) 37 2 (.slice A10 (V2.length+1) c10) (V2.length+1) (fcells V2 ++ [v1,.pointer (some ⟨tg,0,none⟩)])) :
 CpW w5 g2 f A4 c4 l (j+1) (V2 ++ [((.agg #[v1,.pointer (some ⟨tg,0,none⟩)],lo,w8.heap.size,y):FT)]) A10 c10 (w9.setCell ⟨g2,3,none⟩ (.slice A10 (V2.length+1) c10)):=by
 have hA:=own_under h.row hb1;have hGA:=h.blk.under hb1;have hgw9:=hGA.grown hg (fun e=>by obtain⟨cs,hb⟩:=own_is hA e.symm;exact Blk.ne_ hGA hb (by decide) rfl);have hl2:(V2 ++ [((.agg #[v1,.pointer (some ⟨tg,0,none⟩)],lo,w8.heap.size,y):FT)]).length=V2.length+1:=by simp
 have Ta:Tch wr w8 (fun _=>False):=Tch.of_below hb1 _;have Tb:=Tch.of_grown hg (S:=fun q=>some q=(Value.slice F2 V2.length f2c).ownBlock) fun q _ hq=>hq
 have Tc:Tch w9 (w9.setCell ⟨g2,3,none⟩ (.slice A10 (V2.length+1) c10)) (fun q=>q=g2):=Tch.put (S:=fun q=>q=g2) (Tch.refl w9 _) (p:=⟨g2,3,none⟩) _ rfl
 have hS1:∀q,some q=(Value.slice F2 V2.length f2c).ownBlock→∃t cs,Blk w8 q t cs∧t≠103∧t≠3:=fun q hq=>by
  obtain⟨cs,hb⟩:=own_is hA hq.symm;exact⟨_,cs,hb,by decide,by decide⟩
 have hS2:∀q,q=g2→∃t cs,Blk w9 q t cs∧t≠103∧t≠3:=fun q hq=>by subst hq;exact⟨_,_,hgw9,by decide,by decide⟩
 have hfin:∀ {F:Nat→Prop} {v:Value} {x:Raw},FunV w8 F v x f.k→FunV (w9.setCell ⟨g2,3,none⟩ (.slice A10 (V2.length+1) c10)) F v x f.k:=fun h=>(h.off Tb hS1).off Tc hS2
 refine⟨?_,?_,?_,fun p hp=>?_,?_⟩
 ·rw[List.map_append,h.map,List.take_add_one,hy]
  simp
 ·rw[hl2];exact hgw9.set_ 3 _
 ·rw[hl2,show fcells (V2 ++ [((.agg #[v1,.pointer (some ⟨tg,0,none⟩)],lo,w8.heap.size,y):FT)])=fcells V2 ++ [v1,.pointer (some ⟨tg,0,none⟩)] by simp[fcells]]
  exact own_off ho Tc (off_below fun q hq=>by omega)
 ·rcases List.mem_append.1 hp with hp | hp
  ·exact hfin ((h.fs p hp).off Ta fun q h=>h.elim)
  ·rw[List.mem_singleton.1 hp]
   exact hfin hfv
 ·have z1:=h.tch.size
  exact ((h.tch.trans Ta fun _ _ h=>h.elim).trans Tb fun q hq h=>by have:=(own_in hA h.symm).1;omega).trans Tc fun _ _ h=>h
structure Cp1 (K:Int) (r r':Raw):Prop where
 scope:r'.scope=r.scope
 sizes:r'.sizes=r.sizes
 other:r'.other=r.other
 lines:r'.lines.length≤r.lines.length
 ok:okF r' K
 tp:tpOf r' K r'.lines=tpOf r K r.lines
theorem funv_made2 {w:World}{B tg:Nat}{A:Option Addr}{c:Nat}{y:Raw}{k:Int}(hr:w.ownsRow B 3 1 (.slice A y.scope.length c) y.scope.length (nums y.scope))(ht:TpV w tg (fun q=>B≤q) y.lines.length (tpOf y k y.lines)) :
 FunV w (fun q=>B≤q∧q<w.heap.size) (.agg #[.slice A y.scope.length c,.pointer (some ⟨tg,0,none⟩)]) y k :=
 ⟨_,tg,rfl,⟨⟨A,c,rfl⟩,own_base hr (Nat.zero_le _)⟩,fun q hq=>own_in hr hq,ht.lim⟩
end Go.Proofs.YtjpkkkphhaajgaaGreatDoor.wcp
namespace Go.Proofs.YtjpkkkphhaajgaaGreatDoor.wcp
open Go Go.RowKit Go.ChangeShapes Go.WideShapes Go.ChangeAt Go.Maps Go.Proofs.YtjpkkkphhaajgaaGreatDoor.words Go.Proofs.YtjpkkkphhaajgaaGreatDoor.scn
theorem tpf_ok {r:Raw}{K:Int}(hK:1≤K):∀ (n:Nat) (ls:List (List Int × Int)),ls.length=n→(∀l∈ls,InS r.sizes l.1∧0≤l.2)→∀t c,(tpOf r K ls).f t=some c→c≠min r.other K∧0≤c∧c≤K∧InS r.sizes t:=by
 intro n
 induction n with
 | zero =>
   intro ls hl h t c ht;obtain rfl:=List.length_eq_zero_iff.1 hl
   cases ht
 | succ n ih =>
   intro ls hl h t c ht;obtain⟨ms,l,rfl⟩:∃ms l,ls=ms ++ [l]:=⟨ls.dropLast,ls.getLast (by rintro rfl;cases hl),(List.dropLast_concat_getLast _).symm⟩;have hml:ms.length=n:=by simp at hl;exact hl
   have h1:=ih ms hml fun x hx=>h x (List.mem_append_left _ hx)
   have h2:=h l (List.mem_append_right _ (List.mem_singleton.2 rfl));rw[tpOf_snoc]at ht;have ho:=(tpOf_same r K ms).2.2;unfold putF at ht;rw[ho]at ht;dsimp only at ht;split at ht<;>dsimp only at ht
   ·split at ht
    ·cases ht
    ·exact h1 t c ht
   ·split at ht
    ·next hne he =>
     obtain rfl:=Option.some.inj ht;subst he;exact⟨hne,by omega,by omega,h2.1⟩
    ·exact h1 t c ht
theorem tpf_put {r r':Raw}{K:Int}(hK:1≤K)(hok:∀l∈r.lines,InS r.sizes l.1∧0≤l.2)(hs:r'.sizes=r.sizes)(ho:min r'.other K=min r.other K):∀ (n:Nat) (L:List (List Int)),L.length=n→(∀t∈L,((tpOf r K r.lines).f t).isSome=true)→∀u,(tpOf r' K (linesT (tpOf r K r.lines) L)).f u=if u∈L then (tpOf r K r.lines).f u else none:=by
 intro n
 induction n with
 | zero =>
   intro L hl h u;obtain rfl:=List.length_eq_zero_iff.1 hl
   simp[linesT,tpOf,tp0]
 | succ n ih =>
   intro L hl h u;obtain⟨M,t,rfl⟩:∃ms l,L=ms ++ [l]:=⟨L.dropLast,L.getLast (by rintro rfl;cases hl),(List.dropLast_concat_getLast _).symm⟩;have hml:M.length=n:=by simp at hl;exact hl
   have h1:=ih M hml (fun x hx=>h x (List.mem_append_left _ hx)) u;have h2:=h t (List.mem_append_right _ (List.mem_singleton.2 rfl));obtain⟨c,hc⟩:=Option.isSome_iff_exists.1 h2;obtain⟨c1,c2,c3,-⟩:=tpf_ok hK _ _ rfl hok t c hc;have e1:linesT (tpOf r K r.lines) (M ++ [t])=linesT (tpOf r K r.lines) M ++ [(t,c)]:=by unfold linesT;rw[List.map_append,List.map_cons,List.map_nil,hc];rfl
   rw[e1,tpOf_snoc];have ho2:=(tpOf_same r' K (linesT (tpOf r K r.lines) M)).2.2;have e2:min c K=c:=by omega
   unfold putF;rw[ho2,ho];dsimp only;rw[e2,if_neg c1];by_cases hu:u=t
   ·subst hu
    rw[if_pos rfl,if_pos (List.mem_append_right _ (List.mem_singleton.2 rfl)),hc]
   ·rw[if_neg hu,h1]
    by_cases hm:u∈M
    ·rw[if_pos hm,if_pos (List.mem_append_left _ hm)]
    ·rw[if_neg hm,if_neg (by simp[hm,hu])]
theorem cp1_of {r:Raw}{K:Int}{L:List (List Int)}(hok:okF r K)(hL:DomT (tpOf r K r.lines) L)(hn:L.length≤r.lines.length):Cp1 K r ⟨r.scope,r.sizes,r.other,linesT (tpOf r K r.lines) L⟩:=by
 obtain⟨o1,o2,o3,o4,o5,o6,o7,o8⟩:=hok;have hsz:=(tpOf_same r K r.lines).1
 have hmem:∀t,t∈L↔((tpOf r K r.lines).f t).isSome=true:=fun t=>by
  rw[hL.mem t];refine⟨fun h=>h.2,fun h=>⟨?_,h⟩⟩;obtain⟨c,hc⟩:=Option.isSome_iff_exists.1 h;rw[hsz];exact (tpf_ok o3 _ _ rfl o6 t c hc).2.2.2.tpl o1 o2
 have hll:(linesT (tpOf r K r.lines) L).length=L.length:=by unfold linesT;simp
 refine⟨rfl,rfl,rfl,by rw[hll];exact hn,⟨o1,o2,o3,o4,o5,fun l hl=>?_,by rw[hll];exact Nat.le_trans hn o7,o8⟩,?_⟩
 ·unfold linesT at hl
  obtain⟨t,ht,rfl⟩:=List.mem_map.1 hl;obtain⟨c,hc⟩:=Option.isSome_iff_exists.1 ((hmem t).1 ht);have:=tpf_ok o3 _ _ rfl o6 t c hc;rw[hc];exact⟨this.2.2.2,this.2.1⟩
 ·have hf:(tpOf ⟨r.scope,r.sizes,r.other,linesT (tpOf r K r.lines) L⟩ K (linesT (tpOf r K r.lines) L)).f=(tpOf r K r.lines).f:=funext fun u=>by
   rw[tpf_put (r':=⟨r.scope,r.sizes,r.other,linesT (tpOf r K r.lines) L⟩) o3 o6 rfl rfl _ L rfl (fun t ht=>(hmem t).1 ht) u];by_cases hu:u∈L
   ·rw[if_pos hu]
   ·rw[if_neg hu]
    cases he:(tpOf r K r.lines).f u with
    |none=>rfl
    |some c=>exact absurd ((hmem u).2 (by rw[he];rfl)) hu
  obtain⟨a1,a2,a3⟩:=tpOf_same r K r.lines;obtain⟨b1,b2,b3⟩:=tpOf_same ⟨r.scope,r.sizes,r.other,linesT (tpOf r K r.lines) L⟩ K (linesT (tpOf r K r.lines) L);dsimp only at b1 b3 ⊢;generalize tpOf ⟨r.scope,r.sizes,r.other,linesT (tpOf r K r.lines) L⟩ K (linesT (tpOf r K r.lines) L)=X at *;generalize tpOf r K r.lines=Y at *
  cases X
  cases Y
  simp_all
theorem lines_in {r:Raw}{K:Int}{L:List (List Int)}(hok:okF r K)(hL:DomT (tpOf r K r.lines) L):∀l∈linesT (tpOf r K r.lines) L,InS (tpOf r K r.lines).sizes l.1∧inB l.2 (tpOf r K r.lines).k=true∧min l.2 K=l.2:=fun l hl=>by
 obtain⟨o1,o2,o3,o4,o5,o6,o7,o8⟩:=hok;obtain⟨a1,a2,a3⟩:=tpOf_same r K r.lines;unfold linesT at hl;obtain⟨t,ht,rfl⟩:=List.mem_map.1 hl;obtain⟨c,hc⟩:=Option.isSome_iff_exists.1 ((hL.mem t).1 ht).2;obtain⟨c1,c2,c3,c4⟩:=tpf_ok o3 _ _ rfl o6 t c hc;rw[hc,a1,a2];exact⟨c4,by show inB c K=true;simp[inB];omega,by show min c K=c;omega⟩
def CpF (f f2:Fil):Prop:=f2.name=f.name∧f2.k=f.k∧f2.sizes=f.sizes∧f2.funs.length=f.funs.length∧∀ (i:Nat) r r',f.funs[i]?=some r→f2.funs[i]?=some r'→Cp1 f.k r r'
def CopyFR (w:World)(f:Fil)(e:Ending)(w':World):Prop := ∃g2 f2 SA2 sc2 FA2 fc2 V2,e = .returned (.pointer (some ⟨g2,0,none⟩))∧Below w.heap.size w w'∧w.heap.size≤g2∧CpF f f2∧FilW w' g2 f2 SA2 sc2 FA2 fc2 V2∧w'.ownsRow w.heap.size 37 2 (.slice FA2 V2.length fc2) V2.length (fcells V2)
set_option maxRecDepth 100000 in
set_option maxHeartbeats 8000000 in
theorem fcopy_any {w:World}{g:Nat}{f:Fil}{SA FA:Option Addr}{sc fc:Nat}{V:List FT}(h:FilW w g f SA sc FA fc V)(hok:OkFile f) :
 Calls Tryz.prog 25 #[.pointer (some ⟨g,0,none⟩)] w fun e w'=>CopyFR w f e w':=by
 obtain⟨iF,hF0,hF1,hF2,hF3⟩:=info_parts infoFn;have hVl:V.length=f.funs.length:=by have:=congrArg List.length h.1;simpa using this
 obtain⟨m,hm⟩:∃m,V.length=m:=⟨_,rfl⟩;have hml:m≤256:=by have:=hok.n;omega
 obtain⟨name,hname⟩:∃n,f.name=n:=⟨_,rfl⟩;obtain⟨k,hk⟩:∃n,f.k=n:=⟨_,rfl⟩;obtain⟨sizes,hsizes⟩:∃n,f.sizes=n:=⟨_,rfl⟩
 have hagV:∀p∈V,∃a b,p.1 = .agg #[a,b]:=fun p hp=>by
  obtain⟨v1,tg,e,_⟩:=h.2.2.2.2 p hp;exact⟨_,_,e⟩
 have hgb:=h.2.1;have hsr:=h.2.2.1;have hsl:=hok.s2;rw[hname,hk,hsizes,hm]at hgb;rw[hsizes]at hsr hsl;obtain⟨q0,q1,q2,q3,-⟩:=Blk.four (t:=34) hgb;have hcl:=clone_any SA sizes.length sc sizes w.drew (by omega) (show Reads w.drew w.drew.heap.size 1 SA sizes.length (nums sizes) from Reads.of_own hsr);have hgl:=hgb.lt;have HH:=Hd h;have HOK:=Hd hok;have HVL:=Hd hVl;have HM:=Hd hm;have HAG:=Hd hagV;have HGB:=Hd hgb;have HSR:=Hd hsr;have HN:Hid (f.name=name∧f.k=k∧f.sizes=sizes):=⟨hname,hk,hsizes⟩;clear h hok hVl hm hagV hgb hsr hname hk hsizes;have p0:w.drew.cell? ⟨g,0,none⟩=some (strV name):=q0;have p1:w.drew.cell? ⟨g,1,none⟩=some (.int .i64 k):=q1;have p2:w.drew.cell? ⟨g,2,none⟩=some (.slice SA sizes.length sc):=q2
 go_enter Tryz.func25,Tryz.ntmps25
 go_upto_region 3 with fail
 go_region_held3 (fun W=>W.cell? ⟨g,0,none⟩=some (strV name)∧W.cell? ⟨g,1,none⟩=some (.int .i64 k)∧W.cell? ⟨g,2,none⟩=some (.slice SA sizes.length sc)) (first | exact⟨p0,p1,p2⟩ | exact HS2 | exact⟨(World.cell?_alloc_lt w2 _ _ hgl2).trans HS2.1,(World.cell?_alloc_lt w2 _ _ hgl2).trans HS2.2.1,(World.cell?_alloc_lt w2 _ _ hgl2).trans HS2.2.2⟩) (first
  |(go_at_call 13;refine hcl.mono ?_;rintro e w2 ⟨ZA,zc,rfl,hoz,hb2⟩;have HS2:w2.cell? ⟨g,0,none⟩=some (strV name)∧w2.cell? ⟨g,1,none⟩=some (.int .i64 k)∧w2.cell? ⟨g,2,none⟩=some (.slice SA sizes.length sc):=⟨((bcell hb2).1 g 0 hgl).trans p0,((bcell hb2).1 g 1 hgl).trans p1,((bcell hb2).1 g 2 hgl).trans p2⟩;have hgl2:g<w2.heap.size:=Nat.lt_of_lt_of_le hgl hb2.size;have HB2:Hid (Below w.heap.size w w2):=⟨hb2.os,hb2.tape,hb2.output,hb2.size,hb2.block⟩;have HOZ:Hid (w2.ownsRow w.heap.size 3 1 (.slice ZA sizes.length zc) sizes.length (nums sizes)):=hoz;clear hcl hb2 hoz))
 all_goals
  have hb3:=bone w2 (.cells #[strV name,.int .i64 k,.slice ZA sizes.length zc,.slice none 0 0] 34);have hg2:Blk (w2.alloc (.cells #[strV name,.int .i64 k,.slice ZA sizes.length zc,.slice none 0 0] 34)) w2.heap.size 34 #[strV name,.int .i64 k,.slice ZA sizes.length zc,.slice none 0 0]:=Blk.new _ _ _;have hsz3:(w2.alloc (.cells #[strV name,.int .i64 k,.slice ZA sizes.length zc,.slice none 0 0] 34)).heap.size=w2.heap.size+1:=by simp
  obtain⟨w3,hw3⟩:∃w3,w2.alloc (.cells #[strV name,.int .i64 k,.slice ZA sizes.length zc,.slice none 0 0] 34)=w3:=⟨_,rfl⟩;have hw3':w2.alloc (.cells #[.string ⟨name.toArray⟩,.int .i64 k,.slice ZA sizes.length zc,.slice none 0 0] 34)=w3:=hw3;obtain⟨g2,hgg⟩:∃g2,w2.heap.size=g2:=⟨_,rfl⟩;rw[hw3]at hb3 hg2 hsz3;rw[hgg]at hg2 hsz3;have hb3':=bto HB2.out hb3;obtain⟨r0,r1,r2,r3,-⟩:=Blk.four (t:=34) (HGB.out.under hb3');rw[hw3,hgg];have HB3:=Hd hb3';have HG2:=Hd hg2;have HOZ3:=Hd (own_under HOZ.out hb3);have HSZ3:=Hd hsz3;have HG2L:Hid (w.heap.size≤g2):=by have:=HB2.out.size;rw[← hgg];exact this
  clear hb3 hb3' hg2 hw3 hw3' hgg hgl2 HS2 hsz3;go_wp2_with fail;clear r0 r1 r2 r3
  go_loopw [31] (fun jv wr => ∃ (j:Nat) (V2:List FT) (F2:Option Addr) (f2c:Nat) (l:List Raw),jv = .int .i64 j∧j≤m∧V2.length=j∧l.length=j∧(∀ (i:Nat) r r',f.funs[i]?=some r→l[i]?=some r'→Cp1 f.k r r')∧CpW w3 g2 f ZA zc l j V2 F2 f2c wr) (fun jv _=>m-(intOf jv).toNat)
  case atStart=>exact⟨0,[],none,0,[],rfl,Nat.zero_le _,rfl,rfl,(fun i r r' _ h=>by cases h),⟨rfl,by have h1:=HG2.out;have h2:=HN.out;rw[h2.1,h2.2.1,h2.2.2];exact h1,World.ownsRow_nil _ _ _ _,(fun p hp=>by cases hp),Tch.refl _ _⟩⟩
  case round =>
   obtain⟨j,V2,F2,f2c,l,rfl,hj,hV2,hl,hcp,hO⟩:=hrel
   rename World=>wo
   by_cases hlt:j<m
   ·obtain⟨p,hp⟩:∃p,V[j]?=some p:=⟨_,List.getElem?_eq_getElem (by have:=HM.out;omega)⟩
    have hB0r:Below w.heap.size w wo:=HB3.out.trans (hO.tch.below HB3.out.size fun i hi e=>by have:=HG2L.out;omega);obtain⟨hVm,-,-,hrow,hfv⟩:=HH.out.below hB0r;have hfx:f.funs[j]?=some p.2.2.2:=by rw[← hVm,List.getElem?_map,hp];rfl
    have hfp:=hfv p (List.mem_of_getElem? hp);have hpx:p.2.2.2∈f.funs:=List.mem_of_getElem? hfx;have ho1:=(HOK.out.fs _ hpx).1;obtain⟨pv,lo,hi,r⟩:=p;dsimp only at hfp hfx ho1 hpx;obtain⟨v1,tg,rfl,⟨⟨CA,cc,rfl⟩,hcs⟩,-,hT⟩:=hfp;obtain⟨c0,c1⟩:=fc_at HAG.out hp;obtain⟨fb,rfl,-,-⟩:=own_some hrow (by have:=HM.out;omega);rw[HM.out]at hrow;have d0:=(hrow.cellAt (j*2) (by omega)).trans c0;have d1:=(hrow.cellAt (j*2+1) (by omega)).trans c1;have hlen6:r.scope.length≤6:=ho1.2.2.2.2.2.2.2;have hll:r.lines.length≤100000:=ho1.2.2.2.2.2.2.1;have hokT:=ho1.tp r.lines;have HLI:=Hd (fun (L:List (List Int)) (h1:DomT (tpOf r f.k r.lines) L)=>lines_in ho1 h1);have HCP1:=Hd (fun (L:List (List Int)) (h1:DomT (tpOf r f.k r.lines) L) (h2:L.length≤r.lines.length)=>cp1_of ho1 h1 h2);obtain⟨hs0,hs1,hs2⟩:=tpOf_same r f.k r.lines;obtain⟨T,hTe⟩:∃T,tpOf r f.k r.lines=T:=⟨_,rfl⟩;rw[hTe]at hT hokT HCP1 HLI hs0 hs1 hs2;obtain⟨nl,hnl⟩:∃nl,r.lines.length=nl:=⟨_,rfl⟩;rw[hnl]at hT hll HCP1;obtain⟨h6,hsT,hinT⟩:=hokT;have hb4:=bone wo (.cells #[.slice CA r.scope.length cc,.pointer (some ⟨tg,0,none⟩)] 37);have hx:Blk (wo.alloc (.cells #[.slice CA r.scope.length cc,.pointer (some ⟨tg,0,none⟩)] 37)) wo.heap.size 37 #[.slice CA r.scope.length cc,.pointer (some ⟨tg,0,none⟩)]:=Blk.new _ _ _;obtain⟨w4,hw4⟩:∃w4,wo.alloc (.cells #[.slice CA r.scope.length cc,.pointer (some ⟨tg,0,none⟩)] 37)=w4:=⟨_,rfl⟩;obtain⟨xb,hxb⟩:∃xb,wo.heap.size=xb:=⟨_,rfl⟩;rw[hw4]at hb4 hx;have hB4:=hb4;rw[hxb]at hx;obtain⟨x0,x1⟩:=hx.two;have hTb:∀W,Below wo.heap.size wo W→TpV W tg (fun q=>lo≤q∧q<hi) nl T:=fun W hW=>hT.keep (Tch.of_below hW (fun _=>False)) fun _ _ h=>h
    have hsz:=tsizes_any (hTb w4.drew hB4.drew) h6;have i0:(0:Int)≤(j:Int):=Int.natCast_nonneg _;have i1:(j:Int)<(m:Int):=by omega
    have HTB:=Hd hTb;have HB4:=Hd hB4;have HX:=Hd hx;have HCS:=Hd hcs;have hxl:=hx.lt;have HST:=Hd hsT;have HINT:=Hd hinT;have HO:=Hd hO;have HCP:=Hd hcp;have HFX:=Hd hfx;have HTE:=Hd hTe;have HVV:=Hd hV2;have HLL:=Hd hl;have HS:=Hd (⟨hs0,hs1,hs2⟩:T.sizes=r.sizes∧T.k=f.k∧T.other=min r.other f.k);have HXB:=Hd hxb;have HB0R:=Hd hB0r;have y1:w4.drew.cell? ⟨xb,1,none⟩=some (.pointer (some ⟨tg,0,none⟩)):=x1;clear hp hB0r hVm hrow hfv hfx hpx ho1 hcs hT c0 c1 hTe hnl hsT hinT hb4 hx hB4 hTb hO hcp hs0 hs1 hs2 hV2 hl;go_upto_region 9 with fail;clear hw4 hxb d0 d1
    go_region_held3 (fun W=>W.cell? ⟨xb,1,none⟩=some (.pointer (some ⟨tg,0,none⟩))) (first | exact y1 | exact HS5 | exact HS7) (first
     |(go_at_call 63;refine hsz.mono ?_;rintro e w5 ⟨A5,c5,rfl,ho5,hb5⟩;have hb5':Below w4.heap.size w4 w5:=⟨hb5.os,hb5.tape,hb5.output,hb5.size,hb5.block⟩;have HS5:w5.cell? ⟨xb,1,none⟩=some (.pointer (some ⟨tg,0,none⟩)):=((bcell hb5').1 xb 1 hxl).trans x1;have hkk:=tk_any (HTB.out w5 (bto HB4.out hb5'));have hoo:=tother_any (HTB.out w5 (bto HB4.out hb5'));have hnw:=tnew_any A5 T.sizes.length c5 T.sizes T.k T.other w5 h6 (Reads.of_own ho5) HST.out HINT.out;have HB5:=Hd hb5';clear hsz ho5 hb5 hb5')
     |(go_at_call 64;refine hkk.mono ?_;rintro e w6 ⟨rfl,rfl⟩;clear hkk)
     |(go_at_call 15;refine hoo.mono ?_;rintro e w6 ⟨rfl,rfl⟩;clear hoo)
     |(go_at_call 62;refine hnw.mono ?_;rintro e w7 ⟨g6,rfl,hT6,hb7⟩;have HS7:w7.cell? ⟨xb,1,none⟩=some (.pointer (some ⟨tg,0,none⟩)):=((bcell hb7).1 xb 1 (Nat.lt_of_lt_of_le hxl HB5.out.size)).trans HS5;have HT6:=Hd hT6;have HB7:=Hd hb7;clear hnw hT6 hb7))
    all_goals
     have hb47:Below w4.heap.size w4 w7:=bto HB5.out HB7.out;have hlz:=tlines_any (HTB.out w7 (bto HB4.out hb47)) h6 hll;have HB47:=Hd hb47;clear hb47 x0 x1 y1 HS5;go_wp2_with fail;refine hlz.mono ?_;rintro e w8 ⟨v8,L,rfl,hdom,⟨R,hR,⟨AL,cL,rfl⟩,hRo,hRt⟩,hLn,hb8⟩;have HRO:=Hd (show TLRow w8 w7.heap.size (.slice AL R.length cL) R from⟨⟨AL,cL,rfl⟩,hRo,hRt⟩);have hRl:R.length=L.length:=by have:=congrArg List.length hR;simpa [linesT] using this
     have hcp1:=HCP1.out L hdom hLn;have hin:Hid (∀p∈R,InS T.sizes p.2.1∧inB p.2.2 T.k=true∧min p.2.2 f.k=p.2.2):=fun p hp=>HLI.out L hdom p.2 (by rw[← hR];exact List.mem_map.2 ⟨p,hp,rfl⟩)
     have hR1:R.length≤100000:=by omega
     obtain⟨r0,hr0⟩:∃r0:Raw,r0=⟨r.scope,r.sizes,r.other,linesT T L⟩:=⟨_,rfl⟩;rw[← hr0]at hcp1
     have h00:tpOf r0 f.k []=⟨T.sizes,T.k,T.other,fun _=>none⟩:=by
      obtain⟨e1,e2,e3⟩:=HS.out;rw[hr0,e1,e2,e3];rfl
     have hT8:TpV w8 g6 (fun q=>w5.heap.size≤q) 0 (tpOf r0 f.k []):=by
      rw[h00];exact HT6.out.keep (Tch.of_below hb8 (fun _=>False)) fun _ _ h=>h
     have hokr:∀ls,okT (tpOf r0 f.k ls):=fun ls=>hcp1.ok.tp ls
     have hsr0:∀ls,(tpOf r0 f.k ls).sizes=T.sizes∧(tpOf r0 f.k ls).k=T.k:=fun ls=>by
      obtain⟨e1,e2,e3⟩:=HS.out;obtain⟨b1,b2,b3⟩:=tpOf_same r0 f.k ls;rw[b1,b2,e1,e2,hr0];exact⟨rfl,rfl⟩
     have HR0:Hid (r0.scope=r.scope∧R.map (·.2)=r0.lines):=by rw[hr0,hR];exact⟨rfl,rfl⟩
     have HC1:=Hd hcp1;have HT8:=Hd hT8;have HOKR:=Hd hokr;have HSR0:=Hd hsr0;have HB58:=Hd (HB7.out.trans (hb8.mono HB7.out.size):Below w5.heap.size w5 w8);clear hlz hdom hR hRo hRt hLn hb8 hRl hcp1 hr0 h00 hT8 hokr hsr0 HS7;go_wp2_with fail
     go_loopw [55] (fun iv wr => ∃i:Nat,iv = .int .i64 i∧i≤R.length∧Hid (TpV wr g6 (fun q=>w5.heap.size≤q) i (tpOf r0 f.k ((R.map (·.2)).take i)))∧Hid (TLRow wr w7.heap.size (.slice AL R.length cL) R)∧Hid (Below w5.heap.size w5 wr)) (fun iv _=>R.length-(intOf iv).toNat)
     case atStart=>exact⟨0,rfl,Nat.zero_le _,by rw[List.take_zero];exact HT8,HRO,HB58⟩
     case round =>
      obtain⟨i,rfl,hi,hTi,hrowi,hbi⟩:=hrel;by_cases hltR:i<R.length
      ·obtain⟨p,hp⟩:∃p,R[i]?=some p:=⟨_,List.getElem?_eq_getElem hltR⟩
       have hpm:=List.mem_of_getElem? hp;obtain⟨hpi,hpc,hpk⟩:=hin.out p hpm;obtain⟨e1,e2⟩:=lc_at hp;obtain⟨gl,e0,hgl1,hgl2⟩:=own_some hrowi.out.2.1 (by omega);subst e0;have z0:=(hrowi.out.2.1.cellAt (i*2) (by omega)).trans e1;have z1:=(hrowi.out.2.1.cellAt (i*2+1) (by omega)).trans e2;obtain⟨⟨At,ct,hpt⟩,hpo⟩:=hrowi.out.2.2 p hpm;rw[hpt]at z0 hpo;obtain⟨wx,hwx⟩:∃wx,wr.alloc (.cells #[.slice At p.2.1.length ct,.int .i64 p.2.2] 111)=wx:=⟨_,rfl⟩;have hBx:Below wr.heap.size wr wx:=by rw[← hwx];exact bone wr _
       have hLx:Blk wx wr.heap.size 111 #[.slice At p.2.1.length ct,.int .i64 p.2.2]:=by rw[← hwx];exact Blk.new _ _ _
       obtain⟨x0,x1⟩:=Blk.two (t:=111) hLx;have hput:=tput_any (hTi.out.keep (Tch.of_below hBx (fun _=>False)) fun _ _ h=>h) (HOKR.out _) At p.2.1.length ct p.2.1 p.2.2 (Reads.of_own (own_under hpo hBx)) (by rw[(HSR0.out _).1];exact hpi) (by rw[(HSR0.out _).2];exact hpc) (by omega);have HP:=Hd hp;have HPK:=Hd hpk;have HBX:=Hd hBx;have n0:(0:Int)≤(i:Int):=by omega
       have n1:(i:Int)<(R.length:Int):=by omega
       clear hp hpm hpi hpc hpk e1 e2 hpo hBx hLx hpt;go_wp2_with fail;refine hput.mono ?_;rintro e wp ⟨rfl,hTp,htp⟩;clear hput;have HTP:=Hd hTp;have HTC:=Hd htp;clear hTp htp;go_wp2_with fail;go_roundw
       case measure=>simp[intOf];omega
       case rel =>
        refine⟨i+1,by go_num,hltR,?_,Hd (((hrowi.out.under HBX.out).tch HTC.out (fun q hq => .inr fun cs hb=>hq.2 _ _ hb) (fun q hq => .inr fun cs hb=>hq.2 _ _ hb))),Hd ?_⟩
        ·rw[List.take_add_one,List.getElem?_map,HP.out]
         have:=HTP.out;rw[← HPK.out,← tpOf_snoc]at this;exact Hd this
        ·exact hbi.out.trans (((Tch.of_below HBX.out _).trans HTC.out fun q hq h=>h).below hbi.out.size fun q hq h=>by have:=h.1;omega)
      ·obtain rfl:i=R.length:=by omega
       rename World=>w8b
       have hTf:=hTi.out;rw[List.take_of_length_le (by simp),HR0.out.2]at hTf;have hb5b:=hbi.out;have hB4b:Below w4.heap.size w4 w8b:=HB5.out.trans (hb5b.mono HB5.out.size);have hBob:=bto HB4.out hB4b;obtain⟨x0,x1⟩:=(HX.out.under hB4b).two;have hcs:=own_under HCS.out hBob;have hcl2:=clone_any CA r.scope.length cc r.scope w8b.drew (by omega) (show Reads w8b.drew w8b.drew.heap.size 1 CA r.scope.length (nums r.scope) from Reads.of_own hcs);have hlen:R.length=r0.lines.length:=by rw[← HR0.out.2];simp
       rw[hlen]at hTf;have HBOB:=Hd hBob;have HTF:=Hd hTf;have HZ58:=Hd hb5b.size;have HX8:=Hd (HX.out.under hB4b);have hgo:=HO.out.blk.under hBob;have HGO:=Hd hgo;have HROW:=Hd (own_under HO.out.row hBob);have hV256:V2.length≤256:=by have:=HVV.out;omega
       have hg58:g2+1≤w8b.heap.size∧w.heap.size≤w8b.heap.size:=by have h1:=hgo.lt;have h2:=HG2L.out;exact⟨h1,by omega⟩
       obtain⟨r0',r1',r2',r3,-⟩:=Blk.four (t:=34) hgo;clear hTf hb5b hB4b hBob hcs hlen hgo hTi hrowi hbi r0' r1' r2';go_upto_region 15 with fail
       go_region_law (first
        |((try rw[hwa]);refine step_append_any _ rfl (.tmp 70) (.tmp 76) 32 rfl (g2+1) 37 iF _ 2 32 Tryz.underlying32 hF0 hF1 hF2 hF3 rfl (by omega) (.slice F2 V2.length f2c) V2.length _ rfl hA9 wa.heap.size (some ⟨w9.heap.size,0,none⟩) 1 1 [.slice A9 r.scope.length c9,.pointer (some ⟨g6,0,none⟩)] rfl hr9 HONE.out (by simp only[maxLen];omega) (by omega) (by omega) ?_;intro v10 w10 hown10 hg10 hat10;obtain⟨A10,c10,rfl⟩:=own_shape hown10;have hgw10:=hga.grown hg10 (fun e=>by obtain⟨cs,hb⟩:=own_is hA9 e.symm;exact Blk.ne_ hga hb (by decide) rfl);have d3:=(Blk.four (t:=34) hgw10).2.2.2.1;have d3f:=hgw10.frozen 3;have HO10:=Hd hown10;have HG10:=Hd hg10;clear hown10 hg10 hat10 hgw10 hA9 hr9 hga)
        |(go_simp;go_at_call 13;refine hcl2.mono ?_;rintro e w9 ⟨A9,c9,rfl,ho9,hb9⟩;have hb9':Below w8b.heap.size w8b w9:=⟨hb9.os,hb9.tape,hb9.output,hb9.size,hb9.block⟩;obtain⟨wa,hwa⟩:∃wa,w9.alloc (.cells #[.slice A9 r.scope.length c9,.pointer (some ⟨g6,0,none⟩)] 37)=wa:=⟨_,rfl⟩;have hba:Below w9.heap.size w9 wa:=(by rw[← hwa];exact bone w9 _);have hb8a:=bto hb9' hba;have hga:=HGO.out.under hb8a;have hA9:=own_under HROW.out hb8a;have hr9:Reads wa wa.heap.size 2 (some ⟨w9.heap.size,0,none⟩) 1 [.slice A9 r.scope.length c9,.pointer (some ⟨g6,0,none⟩)]:=reads_two (t:=37) (by rw[← hwa];exact heap_alloc_new _ _);have HONE:Hid (∀u ∈ [Value.slice A9 r.scope.length c9,.pointer (some ⟨g6,0,none⟩)],u.oneCell'=true):=(fun u hu=>by (simp only[List.mem_cons,List.not_mem_nil,or_false]at hu;rcases hu with rfl | rfl<;>rfl));have hz9:g2+1≤wa.heap.size:=(by have:=hb8a.size;omega);have HB8A:=Hd hb8a;have HO9:=Hd (own_under ho9 hba);have y3:=(Blk.four (t:=34) (HGO.out.under hb9')).2.2.2.1;obtain⟨X0,X1⟩:=(HX8.out.under hb9').two;have Y3:=(Blk.four (t:=34) hga).2.2.2.1;have Z3:(w9.alloc (.cells #[.slice A9 r.scope.length c9,.pointer (some ⟨g6,0,none⟩)] 37)).cell? ⟨g2,3,none⟩=some (.slice F2 V2.length f2c):=(by rw[hwa];exact Y3);clear hcl2 ho9 hb9 hb9' hba hb8a))
       all_goals
        go_wp2_with fail;go_roundw
        case measure=>simp[intOf];omega
        case rel =>
         have hfv:FunV wa (fun q=>w5.heap.size≤q∧q<wa.heap.size) (.agg #[.slice A9 r.scope.length c9,.pointer (some ⟨g6,0,none⟩)]) r0 f.k:=by
          have h1:=own_base HO9.out (show w5.heap.size≤_ from HZ58.out);rw[← HR0.out.1]at h1 ⊢;exact funv_made2 h1 (HTF.out.keep (Tch.of_below HB8A.out (fun _=>False)) fun _ _ h=>h)
         have hO2:CpW w3 g2 f ZA zc (l ++ [r0]) j V2 F2 f2c wo:={ HO.out with map:=by rw[HO.out.map,List.take_append_of_le_length (by have:=HLL.out;omega)] };have hyj:(l ++ [r0])[j]?=some r0:=by rw[← HLL.out];simp
         refine⟨j+1,V2 ++ [((.agg #[.slice A9 r.scope.length c9,.pointer (some ⟨g6,0,none⟩)],w5.heap.size,wa.heap.size,r0):FT)],A10,c10,l ++ [r0],by go_num,hlt,by simp[HVV.out],by simp[HLL.out],fun i x y hx hy=>?_,hO2.push hyj HSZ3.out (bto HBOB.out HB8A.out) hfv HG10.out HO10.out⟩;by_cases hil:i<l.length
         ·rw[List.getElem?_append_left hil]at hy
          exact HCP.out i x y hx hy
         ·have hi2:=(List.getElem?_eq_some_iff.1 hy).1
          have hie:i=j:=by have:=HLL.out;simp at hi2;omega
          subst hie;rw[hyj]at hy;rw[HFX.out]at hx
          cases hx
          cases hy
          exact HC1.out
   ·obtain rfl:j=m:=by omega
    go_wp2_with fail;go_ret;obtain⟨n1,n2,n3⟩:=HN.out;have hlm:l.length=f.funs.length:=by have:=HVL.out;have:=HM.out;omega
    have hmap:V2.map (·.2.2.2)=l:=by rw[hO.map,← hl,List.take_length]
    refine⟨g2,⟨f.name,f.k,f.sizes,l⟩,ZA,zc,F2,f2c,V2,rfl,HB3.out.trans (hO.tch.below HB3.out.size fun i hi e=>by have:=HG2L.out;omega),HG2L.out,⟨rfl,rfl,rfl,hlm,hcp⟩,⟨hmap,hO.blk,?_,own_base hO.row (Nat.zero_le _),hO.fs⟩,own_base hO.row (by have:=HG2L.out;omega)⟩;have h1:=own_base HOZ3.out (Nat.zero_le _);rw[← n3]at h1;exact hO.tch.own h1 fun q hq e=>by subst e;exact own_blk_ne h1 HG2.out (by decide) hq
end Go.Proofs.YtjpkkkphhaajgaaGreatDoor.wcp

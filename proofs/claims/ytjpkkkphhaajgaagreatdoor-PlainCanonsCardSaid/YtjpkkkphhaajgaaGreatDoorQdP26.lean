/- a part -/
import Derived.Test.YtjpkkkphhaajgaaGreatDoorQdP25
import Derived.Test.YtjpkkkphhaajgaaGreatDoorQdP16
import Derived.Shelf.SlSortCmp.NoneTotal
import Derived.Test.YtjpkkkphhaajgaaGreatDoorQdRowK
set_option linter.all false
namespace Go.Proofs
open Go.Shelf
def Tryz.sortKey_ren:Go.Shelf.Ren:=⟨fun | 6=>167 | 15=>111 | 14=>187 | 28=>160 | 29=>161 | 20=>200 | 21=>201 | 22=>202 | 23=>203 | 24=>204 | 25=>205 | 26=>206 | 27=>207 | 46=>216 | 47=>179 | 48=>180 | 49=>217 | 50=>218 | 57=>224 | n=>n,fun | 22=>213 | 24=>166 | 25=>212 | 3=>3 | 39=>203 | 0=>0 | 53=>257 | 55=>135 | 4=>4 | 46=>250 | 45=>249 | 50=>254 | 5=>5 | 9=>9 | 66=>274 | 70=>278 | 76=>293 | 77=>294 | n=>n,fun | n=>n⟩
theorem Tryz.sortKey:Go.Proofs.SlLaysF0.n6 Tryz.prog Tryz.sortKey_ren:={
 mixed:=by kernel_rfl
 f6:=⟨Tryz.f167.name,by decide,Tryz.func167.trans (congrArg some (by kernel_rfl))⟩
 f14:=⟨Tryz.f187.name,by decide,Tryz.func187.trans (congrArg some (by kernel_rfl))⟩
 f15:=Tryz.func111.trans (congrArg some (by kernel_rfl))
 f20:=⟨Tryz.f200.name,by decide,Tryz.func200.trans (congrArg some (by kernel_rfl))⟩
 f21:=⟨Tryz.f201.name,by decide,Tryz.func201.trans (congrArg some (by kernel_rfl))⟩
 f22:=⟨Tryz.f202.name,by decide,Tryz.func202.trans (congrArg some (by kernel_rfl))⟩
 f23:=⟨Tryz.f203.name,by decide,Tryz.func203.trans (congrArg some (by kernel_rfl))⟩
 f24:=⟨Tryz.f204.name,by decide,Tryz.func204.trans (congrArg some (by kernel_rfl))⟩
 f25:=⟨Tryz.f205.name,by decide,Tryz.func205.trans (congrArg some (by kernel_rfl))⟩
 f26:=⟨Tryz.f206.name,by decide,Tryz.func206.trans (congrArg some (by kernel_rfl))⟩
 f27:=⟨Tryz.f207.name,by decide,Tryz.func207.trans (congrArg some (by kernel_rfl))⟩
 f28:=Tryz.func160.trans (congrArg some (by kernel_rfl))
 f29:=Tryz.func161.trans (congrArg some (by kernel_rfl))
 f46:=⟨Tryz.f216.name,by decide,Tryz.func216.trans (congrArg some (by kernel_rfl))⟩
 f47:=Tryz.func179.trans (congrArg some (by kernel_rfl))
 f48:=Tryz.func180.trans (congrArg some (by kernel_rfl))
 f49:=⟨Tryz.f217.name,by decide,Tryz.func217.trans (congrArg some (by kernel_rfl))⟩
 f50:=⟨Tryz.f218.name,by decide,Tryz.func218.trans (congrArg some (by kernel_rfl))⟩
 f57:=⟨Tryz.f224.name,by decide,Tryz.func224.trans (congrArg some (by kernel_rfl))⟩
 t0:=Tryz.underlying0
 a0:=Tryz.isAgg0
 z0:=Tryz.sizeOf0
 v0:=Tryz.zeroValue0
 t3:=Tryz.underlying3
 a3:=Tryz.isAgg3
 z3:=Tryz.sizeOf3
 v3:=Tryz.zeroValue3
 t4:=Tryz.underlying4
 a4:=Tryz.isAgg4
 z4:=Tryz.sizeOf4
 v4:=Tryz.zeroValue4
 t5:=Tryz.underlying5
 a5:=Tryz.isAgg5
 z5:=Tryz.sizeOf5
 v5:=Tryz.zeroValue5
 t9:=Tryz.underlying9
 a9:=Tryz.isAgg9
 z9:=Tryz.sizeOf9
 v9:=Tryz.zeroValue9
 t22:=Tryz.underlying213
 a22:=Tryz.isAgg213
 z22:=Tryz.sizeOf213
 v22:=Tryz.zeroValue213
 t25:=Tryz.underlying212
 a25:=Tryz.isAgg212
 z25:=Tryz.sizeOf212
 v25:=Tryz.zeroValue212
 t39:=Tryz.underlying203
 a39:=Tryz.isAgg203
 z39:=Tryz.sizeOf203
 v39:=Tryz.zeroValue203
 t45:=Tryz.underlying249
 a45:=Tryz.isAgg249
 z45:=Tryz.sizeOf249
 v45:=Tryz.zeroValue249
 t46:=Tryz.underlying250
 a46:=Tryz.isAgg250
 z46:=Tryz.sizeOf250
 v46:=Tryz.zeroValue250
 t50:=Tryz.underlying254
 a50:=Tryz.isAgg254
 z50:=Tryz.sizeOf254
 v50:=Tryz.zeroValue254
 t53:=Tryz.underlying257
 a53:=Tryz.isAgg257
 z53:=Tryz.sizeOf257
 v53:=Tryz.zeroValue257
 t55:=Tryz.underlying135
 a55:=Tryz.isAgg135
 z55:=Tryz.sizeOf135
 v55:=Tryz.zeroValue135
 t66:=Tryz.underlying274
 a66:=Tryz.isAgg274
 z66:=Tryz.sizeOf274
 v66:=Tryz.zeroValue274
 t70:=Tryz.underlying278
 a70:=Tryz.isAgg278
 z70:=Tryz.sizeOf278
 v70:=Tryz.zeroValue278
 t76:=Tryz.underlying293
 a76:=Tryz.isAgg293
 z76:=Tryz.sizeOf293
 v76:=Tryz.zeroValue293
 t77:=Tryz.underlying294
 a77:=Tryz.isAgg294
 z77:=Tryz.sizeOf294
 v77:=Tryz.zeroValue294 }
end Go.Proofs
namespace Go.Proofs.YtjpkkkphhaajgaaGreatDoor.wcp
open Go RowKit Shelf ChangeShapes WideShapes ChangeAt Maps words scn
def cmp1 (a b:Int):Int:=if a<b then -1 else if b<a then 1 else 0
theorem isnan8_any (a:Int)(w:World):Calls Tryz.prog 185 #[.int .i8 a] w fun e w'=>e = .returned (.bool false)∧w=w':=by
 go_enter Tryz.func185,Tryz.ntmps185
 go_wp2
 go_ret;exact⟨rfl,rfl⟩
theorem cmp8_any (a b:Int)(w:World):Calls Tryz.prog 165 #[.int .i8 a,.int .i8 b] w fun e w'=>e = .returned (.int .i64 (cmp1 a b))∧w=w':=by
 have h1:=isnan8_any a w;have h2:=isnan8_any b w;unfold cmp1;by_cases hab:a<b
 ·rw[if_pos hab]
  have hI:decide (a<b)=true:=decide_eq_true hab
  go_enter Tryz.func165,Tryz.ntmps165
  go_wp2_with fail;refine h1.mono ?_;rintro e w1 ⟨rfl,rfl⟩;go_wp2_with fail;refine h2.mono ?_;rintro e w1 ⟨rfl,rfl⟩;go_wp2_with fail;go_ret;exact⟨rfl,rfl⟩
 ·rw[if_neg hab]
  have hI:decide (a<b)=false:=decide_eq_false hab;by_cases hba:b<a
  ·rw[if_pos hba]
   have hI2:decide (b<a)=true:=decide_eq_true hba
   go_enter Tryz.func165,Tryz.ntmps165
   go_wp2_with fail;refine h1.mono ?_;rintro e w1 ⟨rfl,rfl⟩;go_wp2_with fail;refine h2.mono ?_;rintro e w1 ⟨rfl,rfl⟩;go_wp2_with fail;go_ret;exact⟨rfl,rfl⟩
  ·rw[if_neg hba]
   have hI2:decide (b<a)=false:=decide_eq_false hba
   go_enter Tryz.func165,Tryz.ntmps165
   go_wp2_with fail;refine h1.mono ?_;rintro e w1 ⟨rfl,rfl⟩;go_wp2_with fail;refine h2.mono ?_;rintro e w1 ⟨rfl,rfl⟩;go_wp2_with fail;go_ret;exact⟨rfl,rfl⟩
theorem cmpL_step {xs ys:List Int}{j:Nat}{x y:Int}(hx:xs[j]?=some x)(hy:ys[j]?=some y):cmpL (xs.drop j) (ys.drop j)=if x<y then -1 else if y<x then 1 else cmpL (xs.drop (j+1)) (ys.drop (j+1)):=by
 obtain⟨h1,rfl⟩:=List.getElem?_eq_some_iff.1 hx;obtain⟨h2,rfl⟩:=List.getElem?_eq_some_iff.1 hy;rw[List.drop_eq_getElem_cons h1,List.drop_eq_getElem_cons h2];rfl
set_option maxRecDepth 100000 in
set_option maxHeartbeats 4000000 in
theorem compare8_any (b1 b2 n m c1 c2:Nat)(xs ys:List Int)(w:World)(hn:n≤1000000)(hm:m≤1000000)(hx:xs.length=n)(hy:ys.length=m)(h1:∀j x,xs[j]?=some x→w.cell? ⟨b1,j,none⟩=some (.int .i8 x))(h2:∀j x,ys[j]?=some x→w.cell? ⟨b2,j,none⟩=some (.int .i8 x)) :
 Calls Tryz.prog 123 #[.slice (some ⟨b1,0,none⟩) n c1,.slice (some ⟨b2,0,none⟩) m c2] w fun e w'=>e = .returned (.int .i64 (cmpL xs ys))∧w=w':=by
 have H1:=Hd h1;have H2:=Hd h2;have HX:=Hd hx;have HY:=Hd hy;clear h1 h2 hx hy
 go_enter Tryz.func123,Tryz.ntmps123
 go_wp2_with fail
 go_loopw [5,6,7,8,11] (fun _ _ _ _ jv wr => ∃j:Nat,jv = .int .i64 j∧j≤n∧j≤m∧Hid (cmpL (xs.drop j) (ys.drop j)=cmpL xs ys)∧w=wr) (fun _ _ _ _ jv _=>n-(intOf jv).toNat)
 case atStart=>exact⟨0,rfl,Nat.zero_le _,Nat.zero_le _,by unfold Hid;simp,rfl⟩
 case round =>
  obtain⟨j,rfl,hjn,hjm,hc,rfl⟩:=hrel;by_cases hlt:j<n
  ·have hltI:decide ((j:Int)<(n:Int))=true:=decide_eq_true (by omega)
   obtain⟨x,hx⟩:∃x,xs[j]?=some x:=⟨_,List.getElem?_eq_getElem (by have:=HX.out;omega)⟩;have hcx:=H1.out j x hx;have i0:(0:Int)≤(j:Int):=by omega
   have i1:(j:Int)<(n:Int):=by omega
   by_cases hltm:j<m
   ·have hgeI:decide ((m:Int)≤(j:Int))=false:=decide_eq_false (by omega)
    obtain⟨y,hy⟩:∃y,ys[j]?=some y:=⟨_,List.getElem?_eq_getElem (by have:=HY.out;omega)⟩;have hcy:=H2.out j y hy;have i2:(j:Int)<(m:Int):=by omega
    have hst:=cmpL_step hx hy;have hcm:=cmp8_any x y w;have HC:=Hd hc;have HST:=Hd hst;clear hx hy hc hst;by_cases hxy:x<y
    ·rw[show cmp1 x y = -1 from if_pos hxy]at hcm
     have hres:cmpL xs ys = -1:=by rw[← HC.out,HST.out,if_pos hxy]
     have HRES:=Hd hres;clear hres hxy;go_wp2_with fail;refine hcm.mono ?_;rintro e w1 ⟨rfl,rfl⟩;go_wp2_with fail;go_ret;exact⟨by rw[HRES.out];rfl,rfl⟩
    ·by_cases hyx:y<x
     ·rw[show cmp1 x y=1 by unfold cmp1;rw[if_neg hxy,if_pos hyx]]at hcm
      have hres:cmpL xs ys=1:=by rw[← HC.out,HST.out,if_neg hxy,if_pos hyx]
      have HRES:=Hd hres;clear hres hxy hyx;go_wp2_with fail;refine hcm.mono ?_;rintro e w1 ⟨rfl,rfl⟩;go_wp2_with fail;go_ret;exact⟨by rw[HRES.out];rfl,rfl⟩
     ·rw[show cmp1 x y=0 by unfold cmp1;rw[if_neg hxy,if_neg hyx]]at hcm
      have HN:Hid (cmpL (xs.drop (j+1)) (ys.drop (j+1))=cmpL xs ys):=by unfold Hid;rw[← HC.out,HST.out,if_neg hxy,if_neg hyx]
      clear hxy hyx;go_wp2_with fail;refine hcm.mono ?_;rintro e w1 ⟨rfl,rfl⟩;go_wp2_with fail;go_roundw
      case rel=>exact⟨j+1,by go_num,hlt,hltm,HN,by first | rfl | trivial⟩
      case measure=>simp[intOf];omega
   ·obtain rfl:j=m:=by omega
    have hgeI:decide ((j:Int)≤(j:Int))=true:=decide_eq_true (by omega)
    have hres:cmpL xs ys=1:=by
     rw[← hc.out,show ys.drop j = [] from List.drop_eq_nil_iff.2 (by rw[HY.out];exact Nat.le_refl _)];obtain⟨h1,rfl⟩:=List.getElem?_eq_some_iff.1 hx;rw[List.drop_eq_getElem_cons h1];rfl
    have HRES:=Hd hres;clear hres hx hc;go_wp2_with fail;go_ret;exact⟨by rw[HRES.out];rfl,rfl⟩
  ·obtain rfl:j=n:=by omega
   have hltI:decide ((j:Int)<(j:Int))=false:=decide_eq_false (by omega);have hxn:xs.drop j = []:=List.drop_eq_nil_iff.2 (by rw[HX.out];exact Nat.le_refl _);by_cases hm2:j<m
   ·have hmI:decide ((j:Int)<(m:Int))=true:=decide_eq_true (by omega)
    have hres:cmpL xs ys = -1:=by
     rw[← hc.out,hxn];obtain⟨y,hy⟩:∃y,ys[j]?=some y:=⟨_,List.getElem?_eq_getElem (by have:=HY.out;omega)⟩;obtain⟨h1,rfl⟩:=List.getElem?_eq_some_iff.1 hy;rw[List.drop_eq_getElem_cons h1];rfl
    have HRES:=Hd hres;clear hres hc hxn;go_wp2_with fail;go_ret;exact⟨by rw[HRES.out];rfl,rfl⟩
   ·obtain rfl:j=m:=by omega
    have hres:cmpL xs ys=0:=by
     rw[← hc.out,hxn,show ys.drop j = [] from List.drop_eq_nil_iff.2 (by rw[HY.out];exact Nat.le_refl _)];rfl
    have HRES:=Hd hres;clear hres hc hxn;go_wp2_with fail;go_ret;exact⟨by rw[HRES.out];rfl,rfl⟩
def norm (t:List Int):List Int:=(List.range 6).map fun i=>max 0 (min 31 (t.getD i 0))
theorem norm_pad {n:Nat}{t:List Int}(h:Tpl_ n t):norm t=pad t:=by
 have h6:t.length≤6:=by rw[h.1];exact h.2.1
 apply List.ext_getElem?
 intro i;unfold norm wcp.pad;rw[List.getElem?_map];by_cases hi:i<6
 ·rw[List.getElem?_range hi]
  by_cases hl:i<t.length
  ·rw[List.getElem?_append_left hl,Option.map_some,List.getElem?_eq_getElem hl]
   have:=h.2.2 _ (List.getElem_mem hl);simp only[List.getD,List.getElem?_eq_getElem hl,Option.getD_some]
   congr 1
   omega
  ·rw[List.getElem?_append_right (by omega),List.getElem?_replicate,if_pos (by omega),Option.map_some]
   simp[List.getD,List.getElem?_eq_none (show t.length≤i by omega)];rfl
 ·rw[List.getElem?_eq_none (by simp;omega),List.getElem?_eq_none (by simp;omega)];rfl
theorem norm_len (t:List Int):(norm t).length=6:=by simp[norm]
def encK (t:List Int):List Value:=(norm t).map (Value.int .i8)
set_option maxRecDepth 100000 in
set_option maxHeartbeats 4000000 in
theorem lines1_any (x y:List Int)(w:World):Calls Tryz.prog 122 #[.agg (encK x).toArray,.agg (encK y).toArray] w fun e w'=>e = .returned (.int .i64 (cmpL (norm x) (norm y)))∧∃q os,w'=Sort.grow (w.drewN q) os:=by
 obtain⟨a0,a1,a2,a3,a4,a5,hx⟩:=six (norm_len x);obtain⟨b0,b1,b2,b3,b4,b5,hy⟩:=six (norm_len y);have ex:(encK x).toArray = #[.int .i8 a0,.int .i8 a1,.int .i8 a2,.int .i8 a3,.int .i8 a4,.int .i8 a5]:=by unfold encK;rw[hx];rfl
 have ey:(encK y).toArray = #[.int .i8 b0,.int .i8 b1,.int .i8 b2,.int .i8 b3,.int .i8 b4,.int .i8 b5]:=by unfold encK;rw[hy];rfl
 rw[ex,ey,hx,hy];obtain⟨w1,hw1⟩:∃w1,(w.alloc (.cells #[.int .i8 a0,.int .i8 a1,.int .i8 a2,.int .i8 a3,.int .i8 a4,.int .i8 a5] 166)).alloc (.cells #[.int .i8 b0,.int .i8 b1,.int .i8 b2,.int .i8 b3,.int .i8 b4,.int .i8 b5] 166)=w1:=⟨_,rfl⟩;have hB1:Blk w1 w.heap.size 166 #[.int .i8 a0,.int .i8 a1,.int .i8 a2,.int .i8 a3,.int .i8 a4,.int .i8 a5]:=by rw[← hw1];exact (Blk.new w _ _).alloc _
 have hB2:Blk w1 (w.heap.size+1) 166 #[.int .i8 b0,.int .i8 b1,.int .i8 b2,.int .i8 b3,.int .i8 b4,.int .i8 b5]:=by
  rw[← hw1];have:=Blk.new (w.alloc (.cells #[.int .i8 a0,.int .i8 a1,.int .i8 a2,.int .i8 a3,.int .i8 a4,.int .i8 a5] 166)) 166 #[.int .i8 b0,.int .i8 b1,.int .i8 b2,.int .i8 b3,.int .i8 b4,.int .i8 b5];rw[show (w.alloc (.cells #[.int .i8 a0,.int .i8 a1,.int .i8 a2,.int .i8 a3,.int .i8 a4,.int .i8 a5] 166)).heap.size=w.heap.size+1 by simp]at this;exact this
 have hc1:∀ (j:Nat) x,[a0,a1,a2,a3,a4,a5][j]?=some x→w1.drew.cell? ⟨w.heap.size,j,none⟩=some (.int .i8 x):=fun j x h=>(hB1.cell j).trans (by
  have:=congrArg (Option.map (Value.int .i8)) h;rw[← List.getElem?_map]at this
  simpa using this)
 have hc2:∀ (j:Nat) x,[b0,b1,b2,b3,b4,b5][j]?=some x→w1.drew.cell? ⟨w.heap.size+1,j,none⟩=some (.int .i8 x):=fun j x h=>(hB2.cell j).trans (by
  have:=congrArg (Option.map (Value.int .i8)) h;rw[← List.getElem?_map]at this
  simpa using this)
 have hcm:=compare8_any w.heap.size (w.heap.size+1) 6 6 6 6 _ _ w1.drew (by omega) (by omega) rfl rfl hc1 hc2
 have HW:Hid (w1.drew=Sort.grow (w.drewN 1) #[.cells #[.int .i8 a0,.int .i8 a1,.int .i8 a2,.int .i8 a3,.int .i8 a4,.int .i8 a5] 166,.cells #[.int .i8 b0,.int .i8 b1,.int .i8 b2,.int .i8 b3,.int .i8 b4,.int .i8 b5] 166]):=by
  rw[Hid,← hw1];simp only[Sort.alloc_eq_grow,Sort.grow_grow];rfl
 clear hc1 hc2 ex ey hx hy hB1 hB2
 go_enter Tryz.func122,Tryz.ntmps122
 go_wp2_with fail
 try rw[hw1]
 clear hw1
 go_region_held3 (fun _=>True) (trivial) (first | (go_at_call 123;refine hcm.mono ?_;rintro e w2 ⟨rfl,rfl⟩))
 all_goals
  clear hcm;go_wp2_with fail;go_ret;exact⟨rfl,1,_,HW.out⟩
end Go.Proofs.YtjpkkkphhaajgaaGreatDoor.wcp
namespace Go.Proofs.YtjpkkkphhaajgaaGreatDoor.wcp
open Go RowKit Shelf ChangeShapes WideShapes ChangeAt Maps words scn
theorem cmpL_strict {l m n:List Int}(h1:cmpL l m<0)(h2:cmpL m n<0):cmpL l n<0:=by
 by_cases h:cmpL l n<0
 ·exact h
 ·have h3:cmpL n l≤0:=by rw[cmpL_neg l n];omega
  have h4:=cmpL_trans h3 (show cmpL l m≤0 by omega);rw[cmpL_neg m n]at h4;omega
theorem cmpL_app:∀ {a b:List Int},a.length=b.length→∀r:List Int,cmpL (a++r) (b++r)=cmpL a b:=by
 intro a
 induction a with
 | nil=>intro b h r;cases b with
   |nil=>rw[List.nil_append];exact cmpL_self r
   |cons y b=>simp at h
 | cons x a ih=>intro b h r;cases b with
   |nil=>simp at h
   | cons y b =>
     rw[List.cons_append,List.cons_append];unfold cmpL;by_cases h1:x<y
     ·rw[if_pos h1,if_pos h1]
     ·rw[if_neg h1,if_neg h1]
      by_cases h2:y<x
      ·rw[if_pos h2,if_pos h2]
      ·rw[if_neg h2,if_neg h2];exact ih (by simpa using h) r
theorem cmp_norm {m:Nat}{a b:List Int}(ha:Tpl_ m a)(hb:Tpl_ m b):cmpL (norm a) (norm b)=cmpL a b:=by
 rw[norm_pad ha,norm_pad hb];unfold wcp.pad;rw[ha.1,hb.1];exact cmpL_app (by rw[ha.1,hb.1]) _
def leL (a b:List Int):Bool:=decide (cmpL a b≤0)
theorem leL_trans (a b c:List Int)(h1:leL a b=true)(h2:leL b c=true):leL a c=true:=by
 unfold leL at *;rw[decide_eq_true_eq]at *;exact cmpL_trans h1 h2
theorem leL_total (a b:List Int):(leL a b || leL b a)=true:=by
 unfold leL;rw[cmpL_neg a b];simp;omega
theorem leL_anti {a b:List Int}(h1:leL a b=true)(h2:leL b a=true):a=b:=by
 unfold leL at h1 h2;rw[cmpL_neg a b]at h2;rw[decide_eq_true_eq]at h1 h2;exact cmpL_eq (by omega)
def ordT (L:List (List Int)):List (List Int):=L.mergeSort leL
theorem ordT_perm (L:List (List Int)):(ordT L).Perm L:=List.mergeSort_perm L leL
theorem ordT_uniq {L M:List (List Int)}(h:M.Perm L)(hs:M.Pairwise fun a b=>leL a b=true):M=ordT L :=
 (h.trans (ordT_perm L).symm).eq_of_pairwise (le:=fun a b=>leL a b=true) (fun a b _ _ h1 h2=>leL_anti h1 h2) hs (List.pairwise_mergeSort leL_trans leL_total L)
def cfK (x y:List Int):Int:=cmpL (norm x) (norm y)
theorem swoK:Sort.SWO (ltOf cfK) where
 irrefl x:=by unfold ltOf cfK;rw[cmpL_self];rfl
 trans x y z h1 h2:=by unfold ltOf cfK at *;rw[decide_eq_true_eq]at *;exact cmpL_strict h1 h2
 ntrans x y z h1 h2:=by
  unfold ltOf cfK at *;rw[decide_eq_false_iff_not]at *;have h3:cmpL (norm y) (norm x)≤0:=by rw[cmpL_neg (norm x) (norm y)];omega
  have h4:cmpL (norm z) (norm y)≤0:=by rw[cmpL_neg (norm y) (norm z)];omega
  have h5:=cmpL_trans h4 h3;rw[cmpL_neg (norm x) (norm z)]at h5;omega
theorem encK_kc {m:Nat}{t:List Int}(h:Tpl_ m t):encK t=kc t:=by unfold encK kc;rw[norm_pad h]
theorem flat_kc {m:Nat}{L:List (List Int)}(h:∀t∈L,Tpl_ m t):L.flatMap encK=kcells L:=by
 unfold kcells
 induction L with
 |nil=>rfl
 |cons t L ih=>rw[List.flatMap_cons,List.flatMap_cons,encK_kc (h t (by simp)),ih fun u hu=>h u (by simp[hu])]
set_option maxRecDepth 100000 in
theorem sortK_any {B n c m:Nat}{A:Option Addr}{L:List (List Int)}{w:World}(h:w.ownsRow B 166 6 (.slice A n c) n (kcells L))(hl:L.length=n)(hL:∀t∈L,Tpl_ m t)(hn:n≤1000000) :
 Calls Tryz.prog 167 #[.slice A n c,.func (.func 122) #[] #[]] w fun e w'=>e = .returned (.tuple #[])∧w'.ownsRow B 166 6 (.slice A n c) n (kcells (ordT L))∧Tch w w' (OnlyOwn (.slice A n c)):=by
 by_cases hn0:n=0
 ·subst hn0
  have hL0:L = []:=List.eq_nil_of_length_eq_zero hl;subst hL0;refine (AnyF.slices_SortFunc_none Tryz.sortKey A c _ w).mono ?_;rintro e w' ⟨rfl,rfl⟩;exact⟨rfl,by rw[show ordT [] = [] by simp[ordT]];exact h,Tch.refl _ _⟩
 ·obtain⟨g,rfl,hgb,hgl⟩:=own_some h (by omega)
  have hk:∀x,(encK x).length=6:=fun x=>by unfold encK;rw[List.length_map,norm_len]
  rw[← flat_kc hL]at h;have hH:=holdsK_own hk (by omega) h hl;have hs:L.toArray.size=n:=by simpa using hl
  have hcmp:CmpLays Tryz.prog 122 #[] encK 6 cfK g 0 L.toArray.size w:=fun m os dk hdk x y=>by
   have:=lines1_any x y (sortWorldK encK 6 w g 0 m dk os);exact this
  have hq:=AnyQ.slices_SortFunc Tryz.sortKey 6 Tryz.isAgg166 Tryz.sizeOf166 encK hk (fun x v hv=>by unfold encK at hv;obtain⟨z,-,rfl⟩:=List.mem_map.1 hv;rfl) cfK swoK 122 #[] g 0 c L.toArray w (enters_of Tryz.func122 (by kernel_rfl) rfl) hcmp hH hgl (by omega);rw[hs]at hq;refine hq.mono ?_;rintro e w' ⟨rfl,d',k,os,hp,hso,rfl⟩
  have hpl:d'.toList.Perm L:=by
   have:=hp.2.2;have hd:=hp.1;simp at this
   rwa [List.take_of_length_le (by simp;omega),List.take_of_length_le (by omega)]at this
  have hall:∀t∈d'.toList,Tpl_ m t:=fun t ht=>hL t (hpl.mem_iff.1 ht)
  have hdl:d'.toList.length=n:=by rw[hpl.length_eq,hl]
  obtain⟨h1,h2⟩:=own_sortK (m:=k) (os:=os) (l':=d'.toList) hk (by omega) h hdl
  have hord:d'.toList=ordT L:=by
   refine ordT_uniq hpl ?_;rw[List.pairwise_iff_getElem];intro i j hi hj hij;have:=hso i j (Nat.zero_le _) hij (by omega);rw[getElem!_pos _ i (by simpa using hi),getElem!_pos _ j (by simpa using hj)]at this;unfold ltOf cfK at this;rw[decide_eq_false_iff_not,cmp_norm (m:=m) (hall _ (by simp)) (hall _ (by simp))]at this;unfold leL;rw[decide_eq_true_eq,cmpL_neg (d'.toList[j]) (d'.toList[i])];simp only[Array.getElem_toList]at this ⊢;omega
  rw[show d'.toList.toArray=d' by simp]at h1 h2;refine⟨rfl,?_,h2.mono fun i _ e=>by subst e;rfl⟩;rw[flat_kc hall,hord]at h1;exact h1
theorem sortedK_any (gb b nn m:Nat)(D:DataW Unit)(hD:∀kl,Maps.has D kl=true→∃t,Tpl_ m t∧kl=keyL (pad t))(w:World)(hN:Maps.size D≤1000000)(hb:Blk w gb 101 #[.map (some b)])(hown:w.ownsMap Tryz.prog 166 (plainElem Tryz.prog 2) b nn D) :
 Calls Tryz.prog 124 #[.func (.func 168) #[] #[.pointer (some ⟨gb,0,none⟩)],.func (.func 122) #[] #[]] w fun e w' => ∃L A' c',KeysOf m D L∧L.length≤Maps.size D∧e = .returned (.slice A' L.length c')∧w'.ownsRow w.heap.size 166 6 (.slice A' L.length c') L.length (kcells (ordT L))∧Below w.heap.size w w':=by
 have h:=collK_any gb b nn m D hD w hN hb hown;clear hb hown
 go_enter Tryz.func124,Tryz.ntmps124
 go_wp2_with fail;refine h.mono ?_;rintro e w1 ⟨L,A1,c1,hK,hl,rfl,ho,hB⟩;have hs:=sortK_any ho rfl (fun t ht=>((hK.2 t).1 ht).1) (by omega);have HK:=Hd hK;have HL:=Hd hl;have HB:=Hd hB;have HO:=Hd ho;clear h hK hl hB ho;go_wp2_with fail;refine hs.mono ?_;rintro e w2 ⟨rfl,ho2,hT⟩;clear hs;go_wp2_with fail;go_ret;exact⟨L,A1,c1,HK.out,HL.out,rfl,ho2,HB.out.trans (hT.below HB.out.size fun i hi h=>by have:=(own_in HO.out h).1;omega)⟩
def TLRow (w:World)(base:Nat)(v:Value)(L:List LT):Prop:=(∃A c,v = .slice A L.length c)∧w.ownsRow base 111 2 v L.length (lcells L)∧∀p∈L,RowI w base p.1 p.2.1
def TLines (w:World)(base:Nat)(v:Value)(ls:List (List Int × Int)):Prop := ∃L:List LT,L.map (·.2)=ls∧TLRow w base v L
theorem RowI.tch {w w':World}{base:Nat}{v:Value}{xs:List Int}{S:Nat→Prop}(h:RowI w base v xs)(ht:Tch w w' S)(ho:Off w base S 3):RowI w' base v xs:=⟨h.1,own_off h.2 ht ho⟩
theorem TLRow.tch {w w':World}{base:Nat}{v:Value}{L:List LT}{S:Nat→Prop}(h:TLRow w base v L)(ht:Tch w w' S)(h1:Off w base S 3)(h2:Off w base S 111):TLRow w' base v L :=
 ⟨h.1,own_off h.2.1 ht h2,fun p hp=>(h.2.2 p hp).tch ht h1⟩
theorem TLRow.under {w w':World}{base:Nat}{v:Value}{L:List LT}(h:TLRow w base v L)(hb:Below w.heap.size w w'):TLRow w' base v L :=
 h.tch (Tch.of_below hb fun _=>False) (fun _ h=>h.elim) fun _ h=>h.elim
structure DomT (T:TpH) (L:List (List Int)):Prop where
 nd:L.Nodup
 mem:∀t,t∈L↔Tpl_ T.sizes.length t∧(T.f t).isSome=true
 ord:ordT L=L
def linesT (T:TpH)(L:List (List Int)):List (List Int × Int):=L.map fun t=>(t,(T.f t).getD 0)
theorem infoLn:(Tryz.prog.info? 111).map (fun i=>(i.zero,i.size,i.bytes))=some (some (.agg #[.slice none 0 0,.int .i64 0]),2,32):=by kernel_rfl
theorem zeroI64 (w:World):(zeroValue 2).run Tryz.prog w = .ok (.int .i64 0) w:=by kernel_rfl
theorem line_next {W W3:World}{B g:Nat}{At:Option Addr}{k ct:Nat}{u:Value}{xs:List Value}{o:Obj}(hb:Blk W g 111 #[.slice At k ct,u])(ho:W.ownsRow B 3 1 (.slice At k ct) k xs)
 (hg:(W.alloc o).grownBy W3 (Value.slice At k ct).ownBlock):Blk W3 g 111 #[.slice At k ct,u]:=by
 have h1:Blk (W.alloc o) g 111 #[.slice At k ct,u]:=hb.alloc _;refine h1.grown hg fun e=>?_
 exact own_blk_ne ho hb (by decide) e.symm
theorem kc_at {m:Nat}{M:List (List Int)}(hM:∀t∈M,Tpl_ m t){i j:Nat}{t:List Int}(h:M[i]?=some t)(hj:j<6):(kcells M)[i*6+j]?=(kc t)[j]?:=by
 induction M generalizing i with
 |nil=>simp at h
 | cons u M ih =>
   have hu:(kc u).length=6:=kc_len (hM u (by simp)).pad.1;unfold kcells;rw[List.flatMap_cons]
   cases i with
   | zero =>
     obtain rfl:u=t:=by simpa using h
     rw[Nat.zero_mul,Nat.zero_add,List.getElem?_append_left (by omega)]
   | succ i =>
     rw[List.getElem?_append_right (by omega),hu,show (i+1)*6+j-6=i*6+j by omega];exact ih (fun t ht=>hM t (by simp[ht])) (by simpa using h)
set_option maxRecDepth 100000 in
set_option maxHeartbeats 8000000 in
theorem tlines_any {w:World}{g n:Nat}{F:Nat→Prop}{T:TpH}(hT:TpV w g F n T)(h6:T.sizes.length≤6)(hn:n≤100000) :
 Calls Tryz.prog 55 #[.pointer (some ⟨g,0,none⟩)] w fun e w' => ∃v L,e = .returned v∧DomT T L∧TLines w' w.heap.size v (linesT T L)∧L.length≤n∧Below w.heap.size w w':=by
 obtain⟨hg,A,c,mb,D,hb,ho,hf,hm,hmb,hd⟩:=hT;have hsz:=hm.size_le;obtain⟨iI,hI0,hI1,hI2,hI3⟩:=info_parts infoI;obtain⟨iL,hL0,hL1,hL2,hL3⟩:=info_parts infoLn;have hkm:=keysM_any (some mb) w;obtain⟨w1,hw1⟩:∃w1,w.alloc (.cells #[.map (some mb)] 101)=w1:=⟨_,rfl⟩;have hB1:Below w.heap.size w w1:=by rw[← hw1];exact bone w _
 have hb1:Blk w1 w.heap.size 101 #[.map (some mb)]:=by rw[← hw1];exact Blk.new _ _ _
 have hm1:=map_tch hm (Tch.of_below hB1 fun _=>False) fun h=>h
 have hsk:=sortedK_any w.heap.size mb n T.sizes.length D hd.2 w1 (by omega) hb1 hm1;obtain⟨q0,q1,q2,q3,-⟩:=Blk.four (t:=103) hb;rw[hw1]at hkm;have HB:=Hd hb;have HO:=Hd ho;have HM:=Hd hm;have HD:=Hd hd;have HB1:=Hd hB1;have HSZ:=Hd hsz;clear hb ho hm hd hB1 hb1 hm1 hw1 hsz
 go_enter Tryz.func55,Tryz.ntmps55
 go_wp2_with fail;refine hkm.mono ?_;rintro e w2 ⟨rfl,rfl⟩;clear hkm;go_wp2_with fail;refine hsk.mono ?_;rintro e w2 ⟨L,A2,c2,hK,hl,rfl,ho2,hB2⟩;clear hsk;go_wp2_with fail;obtain⟨M,hM⟩:∃M,ordT L=M:=⟨_,rfl⟩;have hML:M.length=L.length:=by rw[← hM];exact (ordT_perm L).length_eq
 have hMp:∀t,t∈M↔Tpl_ T.sizes.length t∧Maps.has D (keyL (pad t))=true:=fun t=>by rw[← hM,(ordT_perm L).mem_iff];exact hK.2 t
 have hMn:M.Nodup:=by rw[← hM];exact (ordT_perm L).nodup_iff.2 hK.1
 have hMo:ordT M=M:=by rw[← hM];exact (ordT_uniq (List.Perm.refl _) (List.pairwise_mergeSort leL_trans leL_total L)).symm
 rw[hM,← hML]at ho2;have hMt:∀t∈M,Tpl_ T.sizes.length t:=fun t ht=>((hMp t).1 ht).1
 have hB02:Below w.heap.size w w2:=bto HB1.out hB2;have HMM:=Hd (And.intro hMn (And.intro hMp hMo));have HMT:=Hd hMt;have HO2:=Hd ho2;have HB02:=Hd hB02;rw[← hML]at hl ⊢;have hM1:M.length≤100000:=by have:=HSZ.out;omega
 clear hK hM hML hMp hMn hMo ho2 hMt hB02 hB2
 go_loopw [3,6,7,9,20] (fun ov _ _ _ jv wr => ∃ (i:Nat) (R:List LT) (Ao:Option Addr) (co:Nat),jv = .int .i64 i∧i≤M.length∧ov = .slice Ao R.length co∧Hid (R.map (·.2)=(linesT T M).take i)∧R.length=i∧Hid (TLRow wr w2.heap.size (.slice Ao R.length co) R)∧Hid (Below w2.heap.size w2 wr)) (fun _ _ _ _ jv _=>M.length-(intOf jv).toNat)
 case atStart=>exact⟨0,[],none,0,rfl,Nat.zero_le _,rfl,by unfold Hid;simp,rfl,⟨⟨none,0,rfl⟩,World.ownsRow_nil _ _ _ _,fun p hp=>by simp at hp⟩,Below.refl _ _⟩
 case round =>
  obtain⟨i,R,Ao,co,rfl,hi,rfl,hR,hRi,hrow,hbr⟩:=hrel;obtain⟨wo,hwo⟩:∃wo,wo=wr:=⟨_,rfl⟩;subst hwo;have HRI:=Hd hRi;clear hRi;by_cases hlt:i<M.length
  ·have hltI:decide ((i:Int)<(M.length:Int))=true:=decide_eq_true (by omega)
   obtain⟨t,ht⟩:∃t,M[i]?=some t:=⟨_,List.getElem?_eq_getElem hlt⟩;have htp:=HMT.out t (List.mem_of_getElem? ht);obtain⟨a0,a1,a2,a3,a4,a5,hpd⟩:=six htp.pad.1;have hkc:kc t = [.int .i8 a0,.int .i8 a1,.int .i8 a2,.int .i8 a3,.int .i8 a4,.int .i8 a5]:=by unfold kc;rw[hpd];rfl
   have hkv:keyV (pad t) = .agg #[.int .i8 a0,.int .i8 a1,.int .i8 a2,.int .i8 a3,.int .i8 a4,.int .i8 a5]:=by rw[hpd];rfl
   have hkey:keyOf Tryz.prog 166 (.agg #[.int .i8 a0,.int .i8 a1,.int .i8 a2,.int .i8 a3,.int .i8 a4,.int .i8 a5])=some (keyL (pad t)):=by rw[← hkv];exact keyOf6 htp.pad.1 htp.pad.2
   obtain⟨ga,e0,hga,hgl⟩:=own_some HO2.out (by omega);subst e0;have hkr:=own_under HO2.out hbr.out;have hgl2:=hgl;have y0:wo.cell? ⟨ga,i*6+0,none⟩=some (.int .i8 a0):=(hkr.cellAt (i*6+0) (by omega)).trans ((kc_at HMT.out ht (by omega)).trans (by rw[hkc];rfl));have y1:wo.cell? ⟨ga,i*6+1,none⟩=some (.int .i8 a1):=(hkr.cellAt (i*6+1) (by omega)).trans ((kc_at HMT.out ht (by omega)).trans (by rw[hkc];rfl));have y2:wo.cell? ⟨ga,i*6+2,none⟩=some (.int .i8 a2):=(hkr.cellAt (i*6+2) (by omega)).trans ((kc_at HMT.out ht (by omega)).trans (by rw[hkc];rfl));have y3:wo.cell? ⟨ga,i*6+3,none⟩=some (.int .i8 a3):=(hkr.cellAt (i*6+3) (by omega)).trans ((kc_at HMT.out ht (by omega)).trans (by rw[hkc];rfl));have y4:wo.cell? ⟨ga,i*6+4,none⟩=some (.int .i8 a4):=(hkr.cellAt (i*6+4) (by omega)).trans ((kc_at HMT.out ht (by omega)).trans (by rw[hkc];rfl));have y5:wo.cell? ⟨ga,i*6+5,none⟩=some (.int .i8 a5):=(hkr.cellAt (i*6+5) (by omega)).trans ((kc_at HMT.out ht (by omega)).trans (by rw[hkc];rfl));rw[Nat.add_zero]at y0;have i0:(0:Int)≤(i:Int):=by omega
   have i1:(i:Int)<(M.length:Int):=by omega
   have HTP:=Hd htp;have HT:=Hd ht;have HPD:=Hd hpd;clear ht htp hpd hkr hkc hkv;go_upto_region 8 with fail;clear y0 y1 y2 y3 y4 y5;obtain⟨wk,hwk⟩:∃wk,(wo.alloc (.cells #[.int .i8 a0,.int .i8 a1,.int .i8 a2,.int .i8 a3,.int .i8 a4,.int .i8 a5] 166))=wk:=⟨_,rfl⟩;have hBk:Below wo.heap.size wo wk:=by rw[← hwk];exact bone wo _
   have hK0:Blk wk wo.heap.size 166 #[.int .i8 a0,.int .i8 a1,.int .i8 a2,.int .i8 a3,.int .i8 a4,.int .i8 a5]:=by rw[← hwk];exact Blk.new _ _ _
   have hB0k:Below w.heap.size w wk:=bto (bto HB02.out hbr.out) hBk;obtain⟨x0,x1,x2,x3,x4,x5,-⟩:=Blk.six (t:=166) hK0;have p3:=(Blk.four (t:=103) (HB.out.under hB0k)).2.2.2.1;have hMk:=map_tch HM.out (Tch.of_below hB0k fun _=>False) fun h=>h
   obtain⟨v1,e1,hat1,hwv1⟩:=hMk.drew.lookup_int keyed6 Tryz.underlying101 Tryz.underlying2 (zeroI64 _) hkey;obtain⟨v2,e2,hat2,-⟩:=(hMk.alloc (.cells #[.slice none 0 0,.int .i64 0] 111)).drew.lookup_int keyed6 Tryz.underlying101 Tryz.underlying2 (zeroI64 _) hkey;rw[hwk];obtain⟨vt,hvt⟩:∃vt,(T.f t).getD 0=vt:=⟨_,rfl⟩
   have hfv:v1=vt∧v2=vt:=by
    obtain⟨h1,h2⟩:=HD.out.1 t HTP.out;rw[((HMM.out.2.1 t).1 (List.mem_of_getElem? HT.out)).2]at h1;obtain⟨cv,hcv⟩:=Option.isSome_iff_exists.1 h1.symm;have h3:=h2 cv hcv (.lit (.int .i64 0));rw[hcv]at hvt;rw[h3]at hat1 hat2;injection hat1 with hat1
    injection hat2 with hat2
    injection hat1 with _ hat1
    injection hat2 with _ hat2
    exact⟨hat1.symm.trans hvt,hat2.symm.trans hvt⟩
   obtain⟨rfl,rfl⟩:=hfv;have HVT:=Hd hvt;have HK0:=Hd hK0;have HBK:=Hd hBk;have HB0K:=Hd hB0k
   have HSF:Hid (∀W,Below wk.heap.size wk W→(W.cell? ⟨g,3,none⟩=some (.map (some mb))∧W.cell? ⟨wo.heap.size,0,none⟩=some (.int .i8 a0)∧W.cell? ⟨wo.heap.size,1,none⟩=some (.int .i8 a1)∧W.cell? ⟨wo.heap.size,2,none⟩=some (.int .i8 a2)∧W.cell? ⟨wo.heap.size,3,none⟩=some (.int .i8 a3)∧W.cell? ⟨wo.heap.size,4,none⟩=some (.int .i8 a4)∧W.cell? ⟨wo.heap.size,5,none⟩=some (.int .i8 a5))):=by
    intro W hW;obtain⟨x0,x1,x2,x3,x4,x5,-⟩:=Blk.six (t:=166) (HK0.out.under hW);exact⟨(Blk.four (t:=103) (HB.out.under (bto HB0K.out hW))).2.2.2.1,x0,x1,x2,x3,x4,x5⟩
   clear hwk hK0 hBk hB0k hMk hat1 hat2 hwv1 hvt;obtain⟨wl,hwl⟩:∃wl,(wk.alloc (.cells #[.slice none 0 0,.int .i64 v2] 111)).drew=wl:=⟨_,rfl⟩;have HWL:=Hd hwl;clear hwl
   go_cut [7] (fun v wq=>v = .pointer (some ⟨wk.heap.size,0,none⟩)∧wl=wq)
   case first =>
    go_region_held3 (fun W=>W.cell? ⟨g,3,none⟩=some (.map (some mb))∧W.cell? ⟨wo.heap.size,0,none⟩=some (.int .i8 a0)∧W.cell? ⟨wo.heap.size,1,none⟩=some (.int .i8 a1)∧W.cell? ⟨wo.heap.size,2,none⟩=some (.int .i8 a2)∧W.cell? ⟨wo.heap.size,3,none⟩=some (.int .i8 a3)∧W.cell? ⟨wo.heap.size,4,none⟩=some (.int .i8 a4)∧W.cell? ⟨wo.heap.size,5,none⟩=some (.int .i8 a5)) (first | exact⟨p3,x0,x1,x2,x3,x4,x5⟩ | exact HSF.out (wk.alloc (.cells #[.slice none 0 0,.int .i64 0] 111)) (bone _ _) | exact HSF.out (wk.alloc (.cells #[.slice none 0 0,.int .i64 v2] 111)) (bone _ _)) (fail)
    all_goals
     go_wp2_with fail
     go_meet
     case rel=>exact⟨rfl,by rw[HWL.out]⟩
   case rest =>
    obtain⟨rfl,rfl⟩:=hcut;clear p3 x0 x1 x2 x3 x4 x5 e1 e2;have hBl:Below wk.heap.size wk wl:=by rw[← HWL.out];exact below_drewN (bone wk _) 1
    have hLB:Blk wl wk.heap.size 111 #[.slice none 0 0,.int .i64 v2]:=by rw[← HWL.out];exact (Blk.new wk _ _).drew
    have hKl:=HK0.out.under hBl;obtain⟨q0,q1,q2,q3,-⟩:=Blk.four (t:=103) (HB.out.under (bto HB0K.out hBl));have HBL:=Hd hBl;have HLB:=Hd hLB;have HKL:=Hd hKl;obtain⟨m,hm⟩:∃m,T.sizes.length=m:=⟨_,rfl⟩;have hm6:m≤6:=by omega
    have hmI:(m:Int)≤6:=by omega
    have hm0:(0:Int)≤(m:Int):=by omega
    have HM6:=Hd hm;rw[hm]at q0;clear hBl hLB hKl hm;go_wp2_with fail;have htl:t.length=m:=by rw[HTP.out.1];exact HM6.out
    have HTL:=Hd htl;clear htl
    go_loopw [9,38] (fun _ jv wy => ∃ (j:Nat) (At:Option Addr) (ct:Nat),jv = .int .i64 j∧j≤m∧Hid (Blk wy wk.heap.size 111 #[.slice At j ct,.int .i64 v2])∧Hid (wy.ownsRow wl.heap.size 3 1 (.slice At j ct) j (nums (t.take j)))∧Hid (Tch wl wy fun q=>q=wk.heap.size)) (fun _ jv _=>m-(intOf jv).toNat)
    case atStart=>exact⟨0,none,0,rfl,Nat.zero_le _,HLB.out,World.ownsRow_nil _ _ _ _,Tch.refl _ _⟩
    case round =>
     clear q0 q1 q2 q3;obtain⟨j,At,ct,rfl,hj,hlb,hot,htc⟩:=hrel;by_cases hjm:j<m
     ·have hjI:decide ((j:Int)<(m:Int))=true:=decide_eq_true (by omega)
      obtain⟨v,hv⟩:∃v,t[j]?=some v:=⟨_,List.getElem?_eq_getElem (by have:=HTL.out;omega)⟩;have hv32:=HTP.out.2.2 v (List.mem_of_getElem? hv)
      have hvc:wr.cell? ⟨wo.heap.size,j,none⟩=some (.int .i8 v):=by
       have h1:=(htc.out.blk HKL.out (by have:=HK0.out.lt;omega)).cell j;have h2:(pad t)[j]?=some v:=by unfold wcp.pad;rw[List.getElem?_append_left (by have:=HTL.out;omega)];exact hv
       rw[HPD.out]at h2;rw[h1];have:=congrArg (Option.map (Value.int .i8)) h2;rw[← List.getElem?_map]at this
       simpa using this
      obtain⟨c0,c1⟩:=Blk.two (t:=111) hlb.out;have cf:=hlb.out.frozen 0;have hA1:=hot.out.alloc (.cells #[.int .i64 v] 3);have hr1:Reads (wr.alloc (.cells #[.int .i64 v] 3)) (wr.alloc (.cells #[.int .i64 v] 3)).heap.size 1 (some ⟨wr.heap.size,0,none⟩) 1 (nums [v]):=reads_block (t:=3) (heap_alloc_new _ _) rfl;have hsy:=htc.out.size;have HV:=Hd hv;clear hv;have HOT:=hot;have HLBY:=hlb;have HTC:=htc;clear hot hlb htc;have iv0:(0:Int)≤(j:Int):=by omega
      have iv1:(j:Int)<(m:Int):=by omega
      go_wp2_with (first
       |(at_builtin;refine wpList_append_any _ rfl (.tmp 43) (.tmp 46) _ rfl wl.heap.size 3 iI _ 1 8 Tryz.underlying31 hI0 hI1 hI2 hI3 rfl (by omega) (.slice At j ct) j _ rfl hA1 (wr.alloc (.cells #[.int .i64 v] 3)).heap.size (some ⟨wr.heap.size,0,none⟩) 1 1 (nums [v]) rfl hr1 nums_one (by simp only[maxLen];omega) (by omega) (by simp;omega) ?_;intro v6 w6 hown6 hg6 hat6;clear hat6;obtain⟨A6,c6,rfl⟩:=own_shape hown6;have hlb6:=line_next HLBY.out HOT.out hg6;obtain⟨d0,d1⟩:=Blk.two (t:=111) hlb6;have df:=hlb6.frozen 0;have HO6:=Hd hown6;have HG6:=Hd hg6;have HLB6:=Hd hlb6;clear hown6 hg6 hA1 hr1 hlb6)
       |fail)
      go_roundw
      case measure=>simp[intOf];omega
      case rel =>
       have T1:Tch wr (w6.setCell ⟨wk.heap.size,0,none⟩ (.slice A6 (j+1) c6)) (fun q=>(Value.slice At j ct).ownBlock=some q∨q=wk.heap.size):=((Tch.of_below (bone wr (.cells #[.int .i64 v] 3)) _).trans (Tch.of_grown HG6.out (S:=fun q=>(Value.slice At j ct).ownBlock=some q∨q=wk.heap.size) fun q _ e => .inl e.symm) fun _ _ h=>h).put (p:=⟨wk.heap.size,0,none⟩) _ (.inr rfl);refine⟨j+1,A6,c6,by go_num,by omega,HLB6.out.set_ 0 _,?_,HTC.out.trans T1 fun q hq h=>?_⟩
       ·rw[Hid,take_snocI HV.out,show nums (t.take j ++ [v])=nums (t.take j)++nums [v] by simp[nums]]
        exact (Tch.set_ w6 (S:=fun q=>q=wk.heap.size) (p:=⟨wk.heap.size,0,none⟩) (.slice A6 (j+1) c6) rfl).own HO6.out fun q hq e=>own_blk_ne HO6.out HLB6.out (by decide) (e ▸ hq)
       ·rcases h with h | h
        ·have:=(own_in HOT.out h).1;omega
        ·exact h
     ·obtain rfl:j=m:=by omega
      have hjI:decide ((j:Int)<(j:Int))=false:=decide_eq_false (by omega);obtain⟨c0,c1⟩:=Blk.two (t:=111) hlb.out
      have hto:wr.ownsRow wl.heap.size 3 1 (.slice At j ct) j (nums t):=by
       have:=hot.out
       rwa [List.take_of_length_le (by have:=HTL.out;omega)]at this
      have hs2:w2.heap.size≤wo.heap.size:=hbr.out.size;have hs3:wo.heap.size≤wk.heap.size:=HBK.out.size;have hs4:wk.heap.size≤wl.heap.size:=HBL.out.size;have hs5:wl.heap.size≤wr.heap.size:=htc.out.size;have hTo:Below wo.heap.size wo wr:=(bto HBK.out HBL.out).trans (htc.out.below (by omega) fun q hq e=>by omega);have hrow2:=hrow.out.under hTo;have hrr:=hrow2.2.1;have hA1:=hrr.alloc (.cells #[.slice At j ct,.int .i64 v2] 111);have hr1:Reads (wr.alloc (.cells #[.slice At j ct,.int .i64 v2] 111)) (wr.alloc (.cells #[.slice At j ct,.int .i64 v2] 111)).heap.size 2 (some ⟨wr.heap.size,0,none⟩) 1 [.slice At j ct,.int .i64 v2]:=reads_two (t:=111) (heap_alloc_new _ _);have HTO:=Hd hto;have HROW2:=Hd hrow2;have HTO2:=Hd hTo;have hRl:R.length≤100000:=by have:=HRI.out;omega
      clear hot hlb htc hto hrow2 hrr hTo
      go_wp2_with (first
       |(at_builtin;refine wpList_append_any _ rfl (.tmp 50) (.tmp 52) _ rfl w2.heap.size 111 iL _ 2 32 Tryz.underlying108 hL0 hL1 hL2 hL3 rfl (by omega) (.slice Ao R.length co) R.length _ rfl hA1 (wr.alloc (.cells #[.slice At j ct,.int .i64 v2] 111)).heap.size (some ⟨wr.heap.size,0,none⟩) 1 1 [.slice At j ct,.int .i64 v2] rfl hr1 (fun u hu=>by simp at hu;rcases hu with rfl | rfl<;>rfl) (by simp only[maxLen];omega) (by omega) (by simp;omega) ?_;intro v6 w6 hown6 hg6 hat6;clear hat6;obtain⟨A6,c6,rfl⟩:=own_shape hown6;have HO6:=Hd hown6;have HG6:=Hd hg6;clear hown6 hg6 hA1 hr1)
       |fail)
      go_roundw
      case measure=>simp[intOf];omega
      case rel =>
       have T1:Tch wr w6 (fun q=>(Value.slice Ao R.length co).ownBlock=some q):=((Tch.of_below (bone wr (.cells #[.slice At j ct,.int .i64 v2] 111)) _).trans (Tch.of_grown HG6.out (S:=fun q=>(Value.slice Ao R.length co).ownBlock=some q) fun q _ e=>e.symm) fun _ _ h=>h);have hlen:(R ++ [((.slice At j ct:Value),t,v2)]).length=R.length+1:=by simp
       refine⟨i+1,R ++ [(.slice At j ct,t,v2)],A6,c6,by go_num,by omega,by rw[hlen],?_,by rw[hlen,HRI.out],⟨⟨A6,c6,rfl⟩,?_,fun p hp=>?_⟩,?_⟩
       ·unfold Hid
        rw[List.map_append,hR.out,List.take_add_one]
        congr 1
        unfold linesT;rw[List.getElem?_map,HT.out];simp[HVT.out]
       ·rw[hlen,lc_snoc]
        exact HO6.out
       ·rcases List.mem_append.1 hp with hp | hp
        ·exact (HROW2.out.2.2 p hp).tch T1 fun q hq => .inr fun cs hb=>own_blk_ne HROW2.out.2.1 hb (by decide) hq
        ·rw[List.mem_singleton.1 hp]
         have htl:t.length=j:=HTL.out;refine⟨⟨At,ct,by rw[htl]⟩,?_⟩
         have h1:=T1.own HTO.out fun q hq h=>by
          obtain⟨cs,hc⟩:=own_is HTO.out hq;exact own_blk_ne HROW2.out.2.1 hc (by decide) h
         rw[htl];exact own_base h1 (by omega)
       ·exact (hbr.out.trans (HTO2.out.mono hs2)).trans (T1.below (by omega) fun q hq h=>by have:=(own_in HROW2.out.2.1 h).1;omega)
  ·obtain rfl:i=M.length:=by omega
   have hltI:decide ((M.length:Int)<(M.length:Int))=false:=decide_eq_false (by omega);go_wp2_with fail;go_ret;refine⟨_,M,rfl,⟨HMM.out.1,fun t=>?_,HMM.out.2.2⟩,⟨R,?_,?_⟩,by have:=HSZ.out;omega,bto HB02.out hbr.out⟩
   ·rw[HMM.out.2.1 t]
    exact⟨fun h=>⟨h.1,by rw[← (HD.out.1 t h.1).1];exact h.2⟩,fun h=>⟨h.1,by rw[(HD.out.1 t h.1).1];exact h.2⟩⟩
   ·rw[hR.out,List.take_of_length_le (by simp[linesT])]
   ·have hs:=HB02.out.size
    exact⟨⟨Ao,co,rfl⟩,own_base hrow.out.2.1 hs,fun p hp=>⟨(hrow.out.2.2 p hp).1,own_base (hrow.out.2.2 p hp).2 hs⟩⟩
structure CpW (w5:World) (g2:Nat) (f:Fil) (A4:Option Addr) (c4:Nat) (l:List Raw) (j:Nat) (V2:List FT) (F2:Option Addr) (f2c:Nat) (wr:World):Prop where
 map:V2.map (·.2.2.2)=l.take j
 blk:Blk wr g2 34 #[strV f.name,.int .i64 f.k,.slice A4 f.sizes.length c4,.slice F2 V2.length f2c]
 row:wr.ownsRow (g2+1) 37 2 (.slice F2 V2.length f2c) V2.length (fcells V2)
 fs:∀p∈V2,FunV wr (fun k=>p.2.1≤k∧k<p.2.2.1) p.1 p.2.2.2 f.k
 tch:Tch w5 wr (fun q=>q=g2)
theorem CpW.push {w5 wr w8 w9:World}{g2:Nat}{f:Fil}{A4:Option Addr}{c4:Nat}{l:List Raw}{j:Nat}{V2:List FT}{F2 A10:Option Addr}{f2c c10 lo tg:Nat}{v1:Value}{y:Raw}(h:CpW w5 g2 f A4 c4 l j V2 F2 f2c wr)(hy:l[j]?=some y)(hg5:w5.heap.size=g2+1)(hb1:Below wr.heap.size wr w8)
 (hfv:FunV w8 (fun k=>lo≤k∧k<w8.heap.size) (.agg #[v1,.pointer (some ⟨tg,0,none⟩)]) y f.k) (hg:w8.grownBy w9 (Value.slice F2 V2.length f2c).ownBlock) (ho:w9.ownsRow (g2+1) 37 2 (.slice A10 (V2.length+1) c10) (V2.length+1) (fcells V2 ++ [v1,.pointer (some ⟨tg,0,none⟩)])) :
 CpW w5 g2 f A4 c4 l (j+1) (V2 ++ [((.agg #[v1,.pointer (some ⟨tg,0,none⟩)],lo,w8.heap.size,y):FT)]) A10 c10 (w9.setCell ⟨g2,3,none⟩ (.slice A10 (V2.length+1) c10)):=by
 have hA:=own_under h.row hb1;have hGA:=h.blk.under hb1;have hgw9:=hGA.grown hg (fun e=>by obtain⟨cs,hb⟩:=own_is hA e.symm;exact Blk.ne_ hGA hb (by decide) rfl);have hl2:(V2 ++ [((.agg #[v1,.pointer (some ⟨tg,0,none⟩)],lo,w8.heap.size,y):FT)]).length=V2.length+1:=by simp
 have Ta:Tch wr w8 (fun _=>False):=Tch.of_below hb1 _;have Tb:=Tch.of_grown hg (S:=fun q=>some q=(Value.slice F2 V2.length f2c).ownBlock) fun q _ hq=>hq
 have Tc:Tch w9 (w9.setCell ⟨g2,3,none⟩ (.slice A10 (V2.length+1) c10)) (fun q=>q=g2):=Tch.put (S:=fun q=>q=g2) (Tch.refl w9 _) (p:=⟨g2,3,none⟩) _ rfl
 have hS1:∀q,some q=(Value.slice F2 V2.length f2c).ownBlock→∃t cs,Blk w8 q t cs∧t≠103∧t≠3:=fun q hq=>by
  obtain⟨cs,hb⟩:=own_is hA hq.symm;exact⟨_,cs,hb,by decide,by decide⟩
 have hS2:∀q,q=g2→∃t cs,Blk w9 q t cs∧t≠103∧t≠3:=fun q hq=>by subst hq;exact⟨_,_,hgw9,by decide,by decide⟩
 have hfin:∀ {F:Nat→Prop} {v:Value} {x:Raw},FunV w8 F v x f.k→FunV (w9.setCell ⟨g2,3,none⟩ (.slice A10 (V2.length+1) c10)) F v x f.k:=fun h=>(h.off Tb hS1).off Tc hS2
 refine⟨?_,?_,?_,fun p hp=>?_,?_⟩
 ·rw[List.map_append,h.map,List.take_add_one,hy]
  simp
 ·rw[hl2];exact hgw9.set_ 3 _
 ·rw[hl2,show fcells (V2 ++ [((.agg #[v1,.pointer (some ⟨tg,0,none⟩)],lo,w8.heap.size,y):FT)])=fcells V2 ++ [v1,.pointer (some ⟨tg,0,none⟩)] by simp[fcells]]
  exact own_off ho Tc (off_below fun q hq=>by omega)
 ·rcases List.mem_append.1 hp with hp | hp
  ·exact hfin ((h.fs p hp).off Ta fun q h=>h.elim)
  ·rw[List.mem_singleton.1 hp]
   exact hfin hfv
 ·have z1:=h.tch.size
  exact ((h.tch.trans Ta fun _ _ h=>h.elim).trans Tb fun q hq h=>by have:=(own_in hA h.symm).1;omega).trans Tc fun _ _ h=>h
end Go.Proofs.YtjpkkkphhaajgaaGreatDoor.wcp
namespace Go.Proofs.YtjpkkkphhaajgaaGreatDoor.wcp
open Go RowKit ChangeShapes WideShapes ChangeAt Maps words scn
end Go.Proofs.YtjpkkkphhaajgaaGreatDoor.wcp

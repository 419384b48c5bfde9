/- a part -/
import Derived.Test.YtjpkkkphhaajgaaGreatDoorQdP01
import Derived.Shelf.Sort.Plain
import Derived.Shelf.Slices.CompactI
import Derived.Shelf.Slices.In.SortNone
import Derived.Lib.OwnBridge
set_option linter.all false
namespace Go.Proofs
open Go.Shelf
def Tryz.lays189_ren:Go.Shelf.Ren:=⟨fun | 189=>145 | 125=>111 | 257=>176 | 128=>160 | 129=>161 | 294=>191 | 295=>192 | 296=>193 | 297=>194 | 298=>195 | 299=>196 | 216=>49 | 300=>197 | 301=>198 | 328=>213 | 329=>179 | 330=>180 | 331=>214 | 332=>215 | 215=>112 | 343=>223 | n=>n,fun | 28=>31 | 3=>3 | 46=>203 | 0=>0 | 51=>257 | 53=>135 | 4=>4 | 183=>250 | 182=>249 | 131=>254 | 5=>5 | 9=>9 | 218=>274 | 222=>278 | 228=>293 | 229=>294 | n=>n,fun | n=>n⟩
theorem Tryz.lays189:Go.Proofs.Lays.n189 Tryz.prog Tryz.lays189_ren:={
 mixed:=by kernel_rfl
 f125:=Tryz.func111.trans (congrArg some (by kernel_rfl))
 f128:=Tryz.func160.trans (congrArg some (by kernel_rfl))
 f129:=Tryz.func161.trans (congrArg some (by kernel_rfl))
 f189:=Tryz.func145.trans (congrArg some (by kernel_rfl))
 f215:=Tryz.func112.trans (congrArg some (by kernel_rfl))
 f216:=Tryz.func49.trans (congrArg some (by kernel_rfl))
 f257:=Tryz.func176.trans (congrArg some (by kernel_rfl))
 f294:=Tryz.func191.trans (congrArg some (by kernel_rfl))
 f295:=Tryz.func192.trans (congrArg some (by kernel_rfl))
 f296:=Tryz.func193.trans (congrArg some (by kernel_rfl))
 f297:=Tryz.func194.trans (congrArg some (by kernel_rfl))
 f298:=Tryz.func195.trans (congrArg some (by kernel_rfl))
 f299:=Tryz.func196.trans (congrArg some (by kernel_rfl))
 f300:=Tryz.func197.trans (congrArg some (by kernel_rfl))
 f301:=Tryz.func198.trans (congrArg some (by kernel_rfl))
 f328:=Tryz.func213.trans (congrArg some (by kernel_rfl))
 f329:=Tryz.func179.trans (congrArg some (by kernel_rfl))
 f330:=Tryz.func180.trans (congrArg some (by kernel_rfl))
 f331:=Tryz.func214.trans (congrArg some (by kernel_rfl))
 f332:=Tryz.func215.trans (congrArg some (by kernel_rfl))
 f343:=Tryz.func223.trans (congrArg some (by kernel_rfl))
 t0:=Tryz.underlying0
 a0:=Tryz.isAgg0
 z0:=Tryz.sizeOf0
 v0:=Tryz.zeroValue0
 t3:=Tryz.underlying3
 a3:=Tryz.isAgg3
 z3:=Tryz.sizeOf3
 v3:=Tryz.zeroValue3
 t4:=Tryz.underlying4
 a4:=Tryz.isAgg4
 z4:=Tryz.sizeOf4
 v4:=Tryz.zeroValue4
 t5:=Tryz.underlying5
 a5:=Tryz.isAgg5
 z5:=Tryz.sizeOf5
 v5:=Tryz.zeroValue5
 t9:=Tryz.underlying9
 a9:=Tryz.isAgg9
 z9:=Tryz.sizeOf9
 v9:=Tryz.zeroValue9
 t28:=Tryz.underlying31
 a28:=Tryz.isAgg31
 z28:=Tryz.sizeOf31
 v28:=Tryz.zeroValue31
 t46:=Tryz.underlying203
 a46:=Tryz.isAgg203
 z46:=Tryz.sizeOf203
 v46:=Tryz.zeroValue203
 t51:=Tryz.underlying257
 a51:=Tryz.isAgg257
 z51:=Tryz.sizeOf257
 v51:=Tryz.zeroValue257
 t53:=Tryz.underlying135
 a53:=Tryz.isAgg135
 z53:=Tryz.sizeOf135
 v53:=Tryz.zeroValue135
 t131:=Tryz.underlying254
 a131:=Tryz.isAgg254
 z131:=Tryz.sizeOf254
 v131:=Tryz.zeroValue254
 t182:=Tryz.underlying249
 a182:=Tryz.isAgg249
 z182:=Tryz.sizeOf249
 v182:=Tryz.zeroValue249
 t183:=Tryz.underlying250
 a183:=Tryz.isAgg250
 z183:=Tryz.sizeOf250
 v183:=Tryz.zeroValue250
 t218:=Tryz.underlying274
 a218:=Tryz.isAgg274
 z218:=Tryz.sizeOf274
 v218:=Tryz.zeroValue274
 t222:=Tryz.underlying278
 a222:=Tryz.isAgg278
 z222:=Tryz.sizeOf278
 v222:=Tryz.zeroValue278
 t228:=Tryz.underlying293
 a228:=Tryz.isAgg293
 z228:=Tryz.sizeOf293
 v228:=Tryz.zeroValue293
 t229:=Tryz.underlying294
 a229:=Tryz.isAgg294
 z229:=Tryz.sizeOf294
 v229:=Tryz.zeroValue294 }
def Tryz.laysNm220_ren:Go.Shelf.Ren:=⟨fun | 20=>12 | n=>n,fun | 22=>31 | 3=>3 | 4=>4 | 0=>0 | n=>n,fun | n=>n⟩
theorem Tryz.laysNm220:Go.Proofs.Lays2.n20 Tryz.prog Tryz.laysNm220_ren:={
 mixed:=by kernel_rfl
 f20:=Tryz.func12.trans (congrArg some (by kernel_rfl))
 t0:=Tryz.underlying0
 a0:=Tryz.isAgg0
 z0:=Tryz.sizeOf0
 v0:=Tryz.zeroValue0
 t3:=Tryz.underlying3
 a3:=Tryz.isAgg3
 z3:=Tryz.sizeOf3
 v3:=Tryz.zeroValue3
 t4:=Tryz.underlying4
 a4:=Tryz.isAgg4
 z4:=Tryz.sizeOf4
 v4:=Tryz.zeroValue4
 t22:=Tryz.underlying31
 a22:=Tryz.isAgg31
 z22:=Tryz.sizeOf31
 v22:=Tryz.zeroValue31
 i3:=by kernel_rfl }
end Go.Proofs
namespace Go.Proofs.YtjpkkkphhaajgaaGreatDoor.words
open Go RowKit Go.Sort Go.Lib
theorem tch_putRow {w:World}{g n:Nat}{d:Array Int}(os:Array Obj):Tch w (grow (putRow (Value.int .i64) (Sort.ahead w n) g 0 d) os) (fun q=>q=g):=by
 refine⟨rfl,rfl,rfl,?_,fun k hk hn=>?_⟩
 ·simp[grow,putRow,mapBlock,Sort.ahead]
 ·simp only[grow,putRow,mapBlock,Sort.ahead]
  rw[Array.getElem?_append_left (by simpa using hk),Array.getElem?_modify,if_neg (fun e=>hn e.symm)]
def riseI (l:List Int):List Int:=l.mergeSort fun x y=>decide (x≤y)
def OnlyOwn (v:Value)(q:Nat):Prop:=v.ownBlock=some q
theorem own_grow {w:World}{base:Nat}{e:TypeId}{size:Nat}{v:Value}{n:Nat}{xs:List Value}(h:w.ownsRow base e size v n xs)(os:Array Obj):(grow w os).ownsRow base e size v n xs:=by
 refine own_under h ⟨rfl,rfl,rfl,?_,fun k hk=>?_⟩
 ·simp[grow]
 ·simp only[grow]
  rw[Array.getElem?_append_left hk]
theorem sortI_any {B n c:Nat}{A:Option Addr}{xs:List Int}{w:World}(h:w.ownsRow B 3 1 (.slice A n c) n (nums xs))(hn:n≤1000000) :
 Calls Tryz.prog 145 #[.slice A n c] w fun e w'=>e = .returned (.tuple #[])∧w'.ownsRow B 3 1 (.slice A n c) n (nums (riseI xs))∧Tch w w' (OnlyOwn (.slice A n c)):=by
 by_cases hv:(Value.slice A n c) = .slice none 0 0
 ·obtain⟨rfl,rfl,rfl⟩:A=none∧n=0∧c=0:=by injection hv with h1 h2 h3;exact⟨h1,h2,h3⟩
  have hx:xs = []:=List.eq_nil_of_length_eq_zero (by have:=h.1;simpa [nums] using this);subst hx;refine (Any.slices_Sort_int_none Tryz.lays189 none 0 w).mono ?_;rintro e w' ⟨rfl,rfl⟩;exact⟨rfl,by simpa [riseI,nums] using h,Tch.refl _ _⟩
 ·obtain⟨g,cap,e0,h1,h2,h3,h4,h5,hH⟩:=holds_of_ownsRow (enc:=Value.int .i64) (zs:=xs) h hv
  obtain⟨rfl,rfl⟩:A=some ⟨g,0,none⟩∧c=cap:=by injection e0 with h1 h2 h3;exact⟨h1,h3⟩
  subst h5;refine (Any.slices_Sort_int Tryz.lays189 g 0 c xs w hH h2 (by omega)).mono ?_;rintro e w' ⟨rfl,k,os,rfl⟩;refine⟨rfl,own_grow ?_ os,(tch_putRow os).mono fun i hi e=>by subst e;rfl⟩;have:=ownsRow_putRow (ys:=riseI xs) (q:=k) (k:=xs.length) h (by simp[riseI]) (Nat.le_refl _)
  rwa [List.take_of_length_le (by simp[riseI])]at this
end Go.Proofs.YtjpkkkphhaajgaaGreatDoor.words
namespace Go.Proofs.YtjpkkkphhaajgaaGreatDoor.words
open Go RowKit Go.Sort Go.Lib
theorem compact_le (xs:List Int):(Lib.compact xs).length≤xs.length:=by
 unfold Lib.compact compactUpTo;rw[List.length_map];exact Nat.le_trans (List.length_filter_le _ _) (by simp)
theorem tch_put0 {w:World}{g n:Nat}{d:Array Int}:Tch w (putRow (Value.int .i64) (Sort.ahead w n) g 0 d) (fun q=>q=g):=by
 refine⟨rfl,rfl,rfl,?_,fun k hk hn=>?_⟩
 ·simp[putRow,mapBlock,Sort.ahead]
 ·simp only[putRow,mapBlock,Sort.ahead]
  rw[Array.getElem?_modify,if_neg (fun e=>hn e.symm)]
theorem compactI_any {B n c:Nat}{A:Option Addr}{xs:List Int}{w:World}(h:w.ownsRow B 3 1 (.slice A n c) n (nums xs))(hn:n≤1000000) :
 Calls Tryz.prog 12 #[.slice A n c] w fun e w'=>e = .returned (.slice A (Lib.compact xs).length c)∧w'.ownsRow B 3 1 (.slice A (Lib.compact xs).length c) (Lib.compact xs).length (nums (Lib.compact xs))∧Tch w w' (OnlyOwn (.slice A n c)):=by
 have hle:=compact_le xs;have hxl:xs.length=n:=by have:=h.1;simpa [nums] using this
 by_cases hv:(Value.slice A n c) = .slice none 0 0
 ·obtain⟨rfl,rfl,rfl⟩:A=none∧n=0∧c=0:=by injection hv with h1 h2 h3;exact⟨h1,h2,h3⟩
  have hx:xs = []:=List.eq_nil_of_length_eq_zero hxl;subst hx;refine (Any.slices_Compact_int_empty Tryz.laysNm220 none 0 w).mono ?_;rintro e w' ⟨rfl,rfl⟩;exact⟨rfl,h,Tch.refl _ _⟩
 ·obtain⟨g,cap,e0,h1,h2,h3,h4,h5,hH⟩:=holds_of_ownsRow (enc:=Value.int .i64) (zs:=xs) h hv
  obtain⟨rfl,rfl⟩:A=some ⟨g,0,none⟩∧c=cap:=by injection e0 with h1 h2 h3;exact⟨h1,h3⟩
  have hcap:xs.length≤c:=by rw[hxl];exact own_cap h
  have:=Any.slices_Compact_int Tryz.laysNm220 g 0 c xs w hH (by omega) hcap;rw[hxl]at this;refine this.mono ?_;rintro e w' ⟨rfl,q,rfl⟩;have hT:=tch_put0 (w:=w) (g:=g) (n:=q) (d:=(Lib.compact xs++List.replicate (n-(Lib.compact xs).length) 0).toArray);refine⟨rfl,?_,hT.mono fun i _ e=>by subst e;rfl⟩;have:=ownsRow_putRow (ys:=Lib.compact xs++List.replicate (n-(Lib.compact xs).length) 0) (q:=q) (k:=(Lib.compact xs).length) h (by simp;omega) (by omega)
  rwa [List.take_left']at this
  rfl
end Go.Proofs.YtjpkkkphhaajgaaGreatDoor.words

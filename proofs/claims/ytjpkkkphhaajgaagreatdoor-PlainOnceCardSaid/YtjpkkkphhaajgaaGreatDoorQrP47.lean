/- PrBuild, PrMax. -/
import Derived.Test.YtjpkkkphhaajgaaGreatDoorQrP01
import Derived.Test.YtjpkkkphhaajgaaGreatDoorQrP09
import Derived.Test.YtjpkkkphhaajgaaGreatDoorQrP46
import Derived.Shelf.Strings.BuilderK
import Derived.Ground.NamesProg
import Derived.Test.YtjpkkkphhaajgaaGreatDoorQrP43
import Derived.Shelf.Slices.Turned
set_option linter.all false
namespace Go.Proofs
open Go.Shelf
def Tryz.lays169_ren:Go.Shelf.Ren:=⟨fun | 169=>70 | n=>n,fun | 70=>124 | 9=>9 | 0=>0 | 72=>126 | 37=>22 | 127=>226 | 3=>3 | 5=>5 | n=>n,fun | n=>n⟩
theorem Tryz.lays169:Go.Proofs.Lays.n169 Tryz.prog Tryz.lays169_ren:={
 mixed:=by kernel_rfl
 f169:=Tryz.func70.trans (congrArg some (by kernel_rfl))
 t0:=Tryz.underlying0
 a0:=Tryz.isAgg0
 z0:=Tryz.sizeOf0
 v0:=Tryz.zeroValue0
 t3:=Tryz.underlying3
 a3:=Tryz.isAgg3
 z3:=Tryz.sizeOf3
 v3:=Tryz.zeroValue3
 t9:=Tryz.underlying9
 a9:=Tryz.isAgg9
 z9:=Tryz.sizeOf9
 v9:=Tryz.zeroValue9
 t37:=Tryz.underlying22
 a37:=Tryz.isAgg22
 z37:=Tryz.sizeOf22
 v37:=Tryz.zeroValue22
 t70:=Tryz.underlying124
 a70:=Tryz.isAgg124
 z70:=Tryz.sizeOf124
 v70:=Tryz.zeroValue124
 t72:=Tryz.underlying126
 a72:=Tryz.isAgg126
 z72:=Tryz.sizeOf126
 v72:=Tryz.zeroValue126
 t127:=Tryz.underlying226
 a127:=Tryz.isAgg226
 z127:=Tryz.sizeOf226
 v127:=Tryz.zeroValue226 }
def Tryz.lays170_ren:Go.Shelf.Ren:=⟨fun | 170=>69 | n=>n,fun | 70=>124 | 3=>3 | 0=>0 | 72=>126 | 37=>22 | 5=>5 | n=>n,fun | n=>n⟩
theorem Tryz.lays170:Go.Proofs.Lays.n170 Tryz.prog Tryz.lays170_ren:={
 mixed:=by kernel_rfl
 f170:=Tryz.func69.trans (congrArg some (by kernel_rfl))
 t0:=Tryz.underlying0
 a0:=Tryz.isAgg0
 z0:=Tryz.sizeOf0
 v0:=Tryz.zeroValue0
 t3:=Tryz.underlying3
 a3:=Tryz.isAgg3
 z3:=Tryz.sizeOf3
 v3:=Tryz.zeroValue3
 t37:=Tryz.underlying22
 a37:=Tryz.isAgg22
 z37:=Tryz.sizeOf22
 v37:=Tryz.zeroValue22
 t70:=Tryz.underlying124
 a70:=Tryz.isAgg124
 z70:=Tryz.sizeOf124
 v70:=Tryz.zeroValue124
 t72:=Tryz.underlying126
 a72:=Tryz.isAgg126
 z72:=Tryz.sizeOf126
 v72:=Tryz.zeroValue126 }
theorem Tryz.bx169:Builder.Extra Tryz.prog Tryz.lays169_ren where
 sizeBuilder:=by kernel_rfl
 liesBuilder:=by kernel_rfl
 t5:=by kernel_rfl
 a5:=fun w=>by kernel_rfl
 z5:=fun w=>by kernel_rfl
 v5:=fun w=>by kernel_rfl
 infoByte:=by kernel_rfl
 cellsByte:=by kernel_rfl
 sizeByte:=by kernel_rfl
 neB5:=by decide
end Go.Proofs
namespace Go.Proofs.YtjpkkkphhaajgaaGreatDoor.wcp
open Go Go.RowKit Go.Shelf Go.Proofs.YtjpkkkphhaajgaaGreatDoor.words Go.Proofs.YtjpkkkphhaajgaaGreatDoor.scn
def Bd (B b:Nat)(bs:List UInt8)(w:World):Prop:=Lib.IsBuilderF 126 5 B b (Lib.byteCells bs) w
theorem bd_new {B:Nat}(w:World)(hB:B≤w.heap.size):Bd B w.heap.size [] (w.alloc (.cells #[.pointer none,.slice none 0 0] 126)) :=
 .inl ⟨hB,.slice none 0 0,heap_alloc_new _ _,World.ownsRowF_nil _ _ _ _,by simp[Value.ownBlock]⟩
theorem bd_under {B b:Nat}{bs:List UInt8}{w w':World}(h:Bd B b bs w)(hb:Below w.heap.size w w'):Bd B b bs w':=by
 have key:∀p,Lib.BuilderAtF 126 5 B b p (Lib.byteCells bs) w→Lib.BuilderAtF 126 5 B b p (Lib.byteCells bs) w':=fun p ⟨h1,v,h2,h3,h4⟩=>by
  have hlt:=(Array.getElem?_eq_some_iff.1 h2).1;refine⟨h1,v,(hb.block b hlt).trans h2,?_,h4⟩;refine⟨h3.1,?_⟩;rcases h3.2 with hn | ⟨g,cap,cur,fz,rfl,a1,a2,a3⟩
  ·exact .inl hn
  ·exact .inr ⟨g,cap,cur,fz,rfl,a1,(hb.block g (Array.getElem?_eq_some_iff.1 a2).1).trans a2,a3⟩
 rcases h with h | h
 ·exact .inl (key _ h)
 ·exact .inr (key _ h)
def BdS (w:World)(b:Nat)(k:Nat):Prop:=k=b∨∃cs fz,w.heap[k]?=some (.cells cs 5 fz)
theorem tch_others {B b:Nat}{w w':World}(hb:Below B w w')(hs:w.heap.size≤w'.heap.size)(ho:Lib.OthersKept 5 (some b) w w'):Tch w w' (BdS w b):=by
 refine⟨hb.os,hb.tape,hb.output,hs,fun i hi hn=>?_⟩;have h1:=Array.getElem?_eq_getElem hi;rw[h1];refine ho i _ h1 (fun e=>hn (.inl (Option.some.inj e))) fun c fz e=>hn (.inr ⟨c,fz,?_⟩)
 rw[h1,e]
theorem bwrite_any {B b:Nat}{bs s:List UInt8}{w:World}(h:Bd B b bs w)(hl:bs.length+s.length≤1000000)(hB:B≤w.heap.size) :
 Calls Tryz.prog 66 #[.pointer (some ⟨b,0,none⟩),strV s] w fun e w'=>e = .returned (.tuple #[.int .i64 s.length,.nilIface])∧Bd B b (bs++s) w'∧Below B w w'∧Tch w w' (BdS w b):=by
 have hsz:(⟨s.toArray⟩:ByteArray).size=s.length:=by simp[ByteArray.size]
 refine (Any.Builder_WriteString_k { Tryz.lays156 with } Tryz.bx156 B b (Lib.byteCells bs) ⟨s.toArray⟩ w h (by rw[Lib.byteCells_length,hsz];omega) hB).mono ?_;rintro e w' ⟨rfl,h1,h2,h3⟩;refine⟨by rw[hsz],.inr ?_,h2,tch_others h2 h2.size h3⟩;rw[Lib.byteCells_append];exact h1
theorem blen_any {B b:Nat}{bs:List UInt8}{w:World}(h:Bd B b bs w):Calls Tryz.prog 69 #[.pointer (some ⟨b,0,none⟩)] w fun e w'=>e = .returned (.int .i64 bs.length)∧w'=w:=by
 refine (Any.Builder_Len_f Tryz.lays170 B b (Lib.byteCells bs) w h).mono ?_;rintro e w' h;rw[Lib.byteCells_length]at h;exact h
theorem bstr_any {B b:Nat}{bs:List UInt8}{w:World}(h:Bd B b bs w)(hB:B≤w.heap.size):Calls Tryz.prog 70 #[.pointer (some ⟨b,0,none⟩)] w fun e w'=>e = .returned (strV bs)∧Below B w w':=by
 refine (Any.Builder_String_any_k Tryz.lays169 Tryz.bx169 B b bs w h hB).mono ?_;rintro e w' ⟨rfl,_,h2,_⟩;exact⟨rfl,h2⟩
end Go.Proofs.YtjpkkkphhaajgaaGreatDoor.wcp
namespace Go.Proofs
open Go.Shelf
def Tryz.lays113_ren:Go.Shelf.Ren:=⟨fun | 113=>68 | n=>n,fun | 28=>31 | 3=>3 | 4=>4 | 9=>9 | 20=>20 | 0=>0 | n=>n,fun | n=>n⟩
theorem Tryz.lays113:Go.Proofs.Lays.n113 Tryz.prog Tryz.lays113_ren:={
 mixed:=by kernel_rfl
 f113:=Tryz.func68.trans (congrArg some (by kernel_rfl))
 t0:=Tryz.underlying0
 a0:=Tryz.isAgg0
 z0:=Tryz.sizeOf0
 v0:=Tryz.zeroValue0
 t3:=Tryz.underlying3
 a3:=Tryz.isAgg3
 z3:=Tryz.sizeOf3
 v3:=Tryz.zeroValue3
 t4:=Tryz.underlying4
 a4:=Tryz.isAgg4
 z4:=Tryz.sizeOf4
 v4:=Tryz.zeroValue4
 t9:=Tryz.underlying9
 a9:=Tryz.isAgg9
 z9:=Tryz.sizeOf9
 v9:=Tryz.zeroValue9
 t20:=Tryz.underlying20
 a20:=Tryz.isAgg20
 z20:=Tryz.sizeOf20
 v20:=Tryz.zeroValue20
 t28:=Tryz.underlying31
 a28:=Tryz.isAgg31
 z28:=Tryz.sizeOf31
 v28:=Tryz.zeroValue31 }
end Go.Proofs
namespace Go.Proofs.YtjpkkkphhaajgaaGreatDoor.wcp
open Go Go.RowKit Go.Shelf Go.Proofs.YtjpkkkphhaajgaaGreatDoor.words Go.Proofs.YtjpkkkphhaajgaaGreatDoor.scn
theorem max_any {w:World}{B n c:Nat}{A:Option Addr}{zs:List Int}(h:w.ownsRow B 3 1 (.slice A n c) n (nums zs))(h0:zs ≠ [])(hn:n≤1000000) :
 Calls Tryz.prog 68 #[.slice A n c] w fun e w'=>e = .returned (.int .i64 (maxI zs))∧w'=w:=by
 have hl:=nums_own_len h;have hp:=List.length_pos_iff.2 h0;obtain⟨g,rfl,hg1,hg2⟩:=own_some h (by omega)
 have:=Any.slices_Max_int Tryz.lays113 g 0 n c zs w (by omega) (by omega) (by omega) (fun j hj=>by
  have:=(h.cellAt j (by omega)).trans (show (nums zs)[j]?=some (.int .i64 (zs.getD j 0)) by
   unfold nums
   rw[List.getElem?_map,List.getElem?_eq_getElem hj,List.getD_eq_getElem?_getD,List.getElem?_eq_getElem hj];rfl)
  rw[Nat.zero_add];exact this)
 rw[List.take_of_length_le (by omega)]at this;exact this
end Go.Proofs.YtjpkkkphhaajgaaGreatDoor.wcp

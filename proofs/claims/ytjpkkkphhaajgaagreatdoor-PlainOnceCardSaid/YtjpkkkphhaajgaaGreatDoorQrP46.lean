/- ShJoin, LineW. -/
import Derived.Test.YtjpkkkphhaajgaaGreatDoorQrP01
import Derived.Shelf.Strings.OnBuilder
import Derived.Ground.NamesProg
import Derived.Test.YtjpkkkphhaajgaaGreatDoorQrTakes
import Derived.Test.YtjpkkkphhaajgaaGreatDoorQrP43
import Derived.Test.YtjpkkkphhaajgaaGreatDoorQrP09
set_option linter.all false
namespace Go.Proofs
open Go.Shelf
def Tryz.lays156_ren:Go.Shelf.Ren:=⟨fun | 156=>131 | 165=>172 | 166=>66 | 169=>70 | 240=>129 | 241=>189 | 276=>170 | 277=>212 | n=>n,fun | 31=>224 | 9=>9 | 3=>3 | 4=>4 | 0=>0 | 20=>20 | 72=>126 | 76=>129 | 70=>124 | 37=>22 | 75=>128 | 127=>226 | 164=>266 | 5=>5 | 80=>133 | n=>n,fun | n=>n⟩
theorem Tryz.lays156:Go.Proofs.Lays.n156 Tryz.prog Tryz.lays156_ren:={
 mixed:=by kernel_rfl
 f156:=Tryz.func131.trans (congrArg some (by kernel_rfl))
 f165:=Tryz.func172.trans (congrArg some (by kernel_rfl))
 f166:=Tryz.func66.trans (congrArg some (by kernel_rfl))
 f169:=Tryz.func70.trans (congrArg some (by kernel_rfl))
 f240:=Tryz.func129.trans (congrArg some (by kernel_rfl))
 f241:=Tryz.func189.trans (congrArg some (by kernel_rfl))
 f276:=Tryz.func170.trans (congrArg some (by kernel_rfl))
 f277:=Tryz.func212.trans (congrArg some (by kernel_rfl))
 t0:=Tryz.underlying0
 a0:=Tryz.isAgg0
 z0:=Tryz.sizeOf0
 v0:=Tryz.zeroValue0
 t3:=Tryz.underlying3
 a3:=Tryz.isAgg3
 z3:=Tryz.sizeOf3
 v3:=Tryz.zeroValue3
 t4:=Tryz.underlying4
 a4:=Tryz.isAgg4
 z4:=Tryz.sizeOf4
 v4:=Tryz.zeroValue4
 t9:=Tryz.underlying9
 a9:=Tryz.isAgg9
 z9:=Tryz.sizeOf9
 v9:=Tryz.zeroValue9
 t20:=Tryz.underlying20
 a20:=Tryz.isAgg20
 z20:=Tryz.sizeOf20
 v20:=Tryz.zeroValue20
 t31:=Tryz.underlying224
 a31:=Tryz.isAgg224
 z31:=Tryz.sizeOf224
 v31:=Tryz.zeroValue224
 t37:=Tryz.underlying22
 a37:=Tryz.isAgg22
 z37:=Tryz.sizeOf22
 v37:=Tryz.zeroValue22
 t70:=Tryz.underlying124
 a70:=Tryz.isAgg124
 z70:=Tryz.sizeOf124
 v70:=Tryz.zeroValue124
 t72:=Tryz.underlying126
 a72:=Tryz.isAgg126
 z72:=Tryz.sizeOf126
 v72:=Tryz.zeroValue126
 t75:=Tryz.underlying128
 a75:=Tryz.isAgg128
 z75:=Tryz.sizeOf128
 v75:=Tryz.zeroValue128
 t76:=Tryz.underlying129
 a76:=Tryz.isAgg129
 z76:=Tryz.sizeOf129
 v76:=Tryz.zeroValue129
 t127:=Tryz.underlying226
 a127:=Tryz.isAgg226
 z127:=Tryz.sizeOf226
 v127:=Tryz.zeroValue226
 t164:=Tryz.underlying266
 a164:=Tryz.isAgg266
 z164:=Tryz.sizeOf266
 v164:=Tryz.zeroValue266 }
theorem Tryz.bx156:Builder.Extra Tryz.prog Tryz.lays156_ren where
 sizeBuilder:=by kernel_rfl
 liesBuilder:=by kernel_rfl
 t5:=by kernel_rfl
 a5:=fun w=>by kernel_rfl
 z5:=fun w=>by kernel_rfl
 v5:=fun w=>by kernel_rfl
 infoByte:=by kernel_rfl
 cellsByte:=by kernel_rfl
 sizeByte:=by kernel_rfl
 neB5:=by decide
end Go.Proofs
namespace Go.Proofs.YtjpkkkphhaajgaaGreatDoor.wcp
open Go Go.RowKit Go.Shelf Go.ChangeShapes Go.WideShapes Go.ChangeAt Go.Maps Go.Proofs.YtjpkkkphhaajgaaGreatDoor.words Go.Proofs.YtjpkkkphhaajgaaGreatDoor.scn
theorem infoStr:(Tryz.prog.info? 9).map (fun i=>(i.zero,i.size,i.bytes))=some (some (.string ⟨#[]⟩),1,16):=by kernel_rfl
def wstrs (ws:List (List UInt8)):List Value:=ws.map strV
theorem wstrs_snoc (ws:List (List UInt8))(v:List UInt8):wstrs (ws ++ [v])=wstrs ws ++ [strV v]:=by unfold wstrs;rw[List.map_append];rfl
theorem one_str {v:List UInt8}:∀u∈([strV v]:List Value),u.oneCell'=true:=fun u hu=>by rw[List.mem_singleton.1 hu];rfl
theorem lib_join:∀ (ws:List (List UInt8)),Lib.join ws [32]=joinW ws
 | []=>rfl
 | [w]=>by simp[Lib.join,joinW]
 | w::v::ws=>by
   have h:=lib_join (v::ws);rw[joinW_two,← h];simp[Lib.join]
theorem wjoin_any {B m c:Nat}{A:Option Addr}{L:List (List UInt8)}{w:World}(h:w.ownsRow B 9 1 (.slice A m c) m (wstrs L))(hm:m≤1000000)(hl:(joinW L).length≤1000000) :
 Calls Tryz.prog 131 #[.slice A m c,.string ⟨#[32]⟩] w fun e w'=>e = .returned (strV (joinW L))∧Below w.heap.size w w':=by
 have hlen:L.length=m:=by have:=h.1;unfold wstrs at this;simpa using this
 have hcap:=own_cap h;have e32:(⟨#[32]⟩:ByteArray).data.toList = [32]:=rfl;by_cases h0:m=0
 ·subst h0
  obtain rfl:=List.eq_nil_of_length_eq_zero hlen;refine (Any.strings_Join_none Tryz.lays156 Tryz.bx156 A c ⟨#[32]⟩ w).mono ?_;rintro e w' ⟨rfl,rfl⟩;exact⟨rfl,Below.refl _ _⟩
 ·obtain⟨g,rfl,hg1,hg2⟩:=own_some h (by omega)
  subst hlen;have hx:(L.map fun l=>(⟨l.toArray⟩:ByteArray)).map (·.data.toList)=L:=by rw[List.map_map];simp[Function.comp_def]
  have:=Any.strings_Join Tryz.lays156 Tryz.bx156 g 0 c (L.map fun l=>(⟨l.toArray⟩:ByteArray)) ⟨#[32]⟩ w (fun j x hx=>by
   rw[List.getElem?_map]at hx
   cases hj:L[j]? with
   |none=>rw[hj]at hx;cases hx
   | some l =>
     rw[hj]at hx;injection hx with hx
     subst hx;have hlt:=(List.getElem?_eq_some_iff.1 hj).1;have:=(h.cellAt j (by omega)).trans (show (wstrs L)[j]?=some (strV l) by unfold wstrs;rw[List.getElem?_map,hj];rfl)
     rw[Nat.zero_add];exact this) hg2 (by rw[List.length_map];omega) (by rw[List.length_map];exact hcap) (by rw[hx,e32,lib_join];omega)
  rw[hx,e32,lib_join,List.length_map]at this;exact this
theorem as_ss (v:Value)(w:World):(Instr.typeAssert (.iface 9 v) 20 9 true).run Tryz.prog w = .ok (.tuple #[v,.bool true]) w:=by kernel_rfl
theorem as_is (v:Value)(w:World):(Instr.typeAssert (.iface 3 v) 20 9 true).run Tryz.prog w = .ok (.tuple #[.string ⟨#[]⟩,.bool false]) w:=by kernel_rfl
theorem as_ii (v:Value)(w:World):(Instr.typeAssert (.iface 3 v) 20 3 true).run Tryz.prog w = .ok (.tuple #[v,.bool true]) w:=by kernel_rfl
theorem as_ns (v:Value)(w:World):(Instr.typeAssert (.iface 2 v) 20 9 true).run Tryz.prog w = .ok (.tuple #[.string ⟨#[]⟩,.bool false]) w:=by kernel_rfl
theorem as_ni (v:Value)(w:World):(Instr.typeAssert (.iface 2 v) 20 3 true).run Tryz.prog w = .ok (.tuple #[.int .i64 0,.bool false]) w:=by kernel_rfl
theorem as_nn (v:Value)(w:World):(Instr.typeAssert (.iface 2 v) 20 2 true).run Tryz.prog w = .ok (.tuple #[v,.bool true]) w:=by kernel_rfl
theorem as_ls (v:Value)(w:World):(Instr.typeAssert (.iface 31 v) 20 9 true).run Tryz.prog w = .ok (.tuple #[.string ⟨#[]⟩,.bool false]) w:=by kernel_rfl
theorem as_li (v:Value)(w:World):(Instr.typeAssert (.iface 31 v) 20 3 true).run Tryz.prog w = .ok (.tuple #[.int .i64 0,.bool false]) w:=by kernel_rfl
theorem as_ln (v:Value)(w:World):(Instr.typeAssert (.iface 31 v) 20 2 true).run Tryz.prog w = .ok (.tuple #[.int .i64 0,.bool false]) w:=by kernel_rfl
theorem as_ll (v:Value)(w:World):(Instr.typeAssert (.iface 31 v) 20 31 true).run Tryz.prog w = .ok (.tuple #[v,.bool true]) w:=by kernel_rfl
inductive Itm where
 |s (l:List UInt8)
 |i (n:Int)
 |n (n:Int)
 |l (A:Option Addr) (c:Nat) (xs:List Int)
def Itm.val:Itm→Value
 | .s b => .iface 9 (strV b)
 | .i z => .iface 3 (.int .i64 z)
 | .n z => .iface 2 (.int .i64 z)
 | .l A c xs => .iface 31 (.slice A xs.length c)
def Itm.ws:Itm→List (List UInt8)
 | .s b => [b]
 | .i z => [Lib.itoa z]
 | .n z => [Lib.itoa z]
 | .l _ _ xs=>decs xs
def Itm.Ok (w:World):Itm→Prop
 | .s b=>True
 | .i z => -9223372036854775808≤z∧z≤9223372036854775807
 | .n z => -9223372036854775808≤z∧z≤9223372036854775807
 | .l A c xs=>xs.length≤1000000∧xs.length≤c∧Reads w w.heap.size 1 A xs.length (nums xs)∧∀v∈xs,-9223372036854775808≤v∧v≤9223372036854775807
def lineI (its:List Itm):List (List UInt8):=its.flatMap Itm.ws
theorem lineI_take {its:List Itm}{j:Nat}{t:Itm}(h:its[j]?=some t):lineI (its.take (j+1))=lineI (its.take j)++t.ws:=by
 unfold lineI;rw[List.take_add_one,h,List.flatMap_append];simp
theorem decs_take {xs:List Int}{q:Nat}{v:Int}(h:xs[q]?=some v):decs (xs.take (q+1))=decs (xs.take q) ++ [Lib.itoa v]:=by
 unfold decs;rw[List.take_add_one,h,List.map_append];rfl
theorem lineI_le {its:List Itm}(j:Nat):(lineI (its.take j)).length≤(lineI its).length:=by
 have:lineI its=lineI (its.take j)++lineI (its.drop j):=by unfold lineI;rw[← List.flatMap_append,List.take_append_drop]
 rw[this,List.length_append];omega
theorem own_wlen {w:World}{B m:Nat}{v:Value}{L:List (List UInt8)}(h:w.ownsRow B 9 1 v m (wstrs L)):L.length=m:=by
 have:=h.1;unfold wstrs at this;simpa using this
theorem lineadd (a:List UInt8)(h:a.length≤1000000):∀w:World,(Op.stringOp .add ⟨a.toArray⟩ ⟨#[10]⟩).run Tryz.prog w = .ok (strV (a ++ [10])) w:=fun w=>by
 rw[run_string_add_sum w _ _ (by simp[ByteArray.size];omega)];rfl
set_option maxRecDepth 100000 in
set_option maxHeartbeats 8000000 in
theorem line_any (A0:Option Addr)(n c0:Nat)(its:List Itm)(w:World)(hn:n≤1000000)(hr:Reads w w.heap.size 1 A0 n (its.map Itm.val))(hok:∀t∈its,t.Ok w)(hln:(lineI its).length≤1000000)(hlj:(joinW (lineI its)).length≤999999)(ht:Tab w) :
 Calls Tryz.prog 67 #[.slice A0 n c0] w fun e w'=>e = .returned (strV (lineW (lineI its)))∧Below w.heap.size w w':=by
 obtain⟨i0,hi0,hz0,hz1,hz2⟩:=info_parts infoStr;have hlen:its.length=n:=by have:=hr.1;simpa using this
 have HR:=Hd hr;have HOK:=Hd hok;have HT:=Hd ht;have HLN:=Hd hln;have HLJ:=Hd hlj;have HN:=Hd hlen;clear hr hok ht hln hlj hlen
 go_enter Tryz.func67,Tryz.ntmps67
 go_wp2_with fail
 go_loopw [3,14] (fun ov iv wr => ∃ (j m c:Nat) (A:Option Addr) (L:List (List UInt8)),iv = .int .i64 j∧j≤n∧ov = .slice A m c∧Hid (L=lineI (its.take j))∧wr.ownsRow w.heap.size 9 1 (.slice A m c) m (wstrs L)∧Below w.heap.size w wr) (fun _ iv _=>n-(intOf iv).toNat)
 case atStart=>exact⟨0,0,0,none,[],rfl,Nat.zero_le _,rfl,rfl,World.ownsRow_nil _ _ _ _,Below.refl _ _⟩
 case round =>
  obtain⟨j,m,c,A,L,rfl,hj,rfl,HL,ho,hb⟩:=hrel;have hml:L.length=m:=own_wlen ho;by_cases hlt:j<n
  ·obtain⟨t,hjt⟩:∃t,its[j]?=some t:=⟨_,List.getElem?_eq_getElem (by rw[HN.out];exact hlt)⟩
   have htk:=lineI_take hjt;have hle:=lineI_le (its:=its) (j+1);rw[htk,← HL.out,List.length_append]at hle;have hmt:m+t.ws.length≤1000000:=by have:=HLN.out;omega
   have hto:=HOK.out t (List.mem_of_getElem? hjt);obtain⟨ad,u,rfl,had,hu,hcell⟩:=HR.out.at_ hlt;obtain rfl:u=t.val:=by rw[List.getElem?_map,hjt]at hu;injection hu with hu;exact hu.symm
   have hcell2:=((hb.cell (p:=ad.add j) (by rw[block_of_add];exact had))).trans hcell;have i0':(0:Int)≤(j:Int):=Int.natCast_nonneg _;have i1:(j:Int)<(n:Int):=by omega
   have HTK:=Hd htk;have HB:=Hd hb;have HTO:=Hd hto;have HML:=Hd hml;clear hjt htk hle hu hcell hb hto hml
   cases t with
   | s b =>
     have ho3:=own_under ho (bone wr (.cells #[strV b] 9));have hr1:Reads (wr.alloc (.cells #[strV b] 9)) (wr.alloc (.cells #[strV b] 9)).heap.size 1 (some ⟨wr.heap.size,0,none⟩) 1 [strV b]:=reads_block (t:=9) (heap_alloc_new _ _) rfl;have HB2:=Hd (bnew HB.out (.cells #[strV b] 9));have hsz:w.heap.size≤(wr.alloc (.cells #[strV b] 9)).heap.size:=HB2.out.size;have hm1:m+1≤1000000:=hmt;clear ho;unfold Itm.val at hcell2;have a1:=as_ss (strV b)
     go_wp2_with (first
      |(at_builtin;refine wpList_append_any _ rfl (.tmp 22) (.tmp 24) _ rfl w.heap.size 9 i0 _ 1 16 Tryz.underlying224 hi0 hz0 hz1 hz2 rfl (by omega) (.slice A m c) m _ rfl ho3 _ _ 1 1 [strV b] rfl hr1 one_str (by simp only[maxLen];omega) (by omega) hsz ?_;intro v6 w6 hown6 hg6 hat6;clear hat6;obtain⟨A6,c6,rfl⟩:=own_shape hown6;have HO6:=Hd hown6;have HG6:=Hd (HB2.out.grown hg6 hsz (fun g hg=>(own_in ho3 hg).1));clear hown6 hg6 ho3 hr1)
      |fail)
     all_goals
      go_roundw
      case measure=>simp[intOf];omega
      case rel=>exact⟨j+1,m+1,c6,A6,L ++ [b],by go_num,by omega,rfl,by rw[Hid,HTK.out,HL.out];rfl,by rw[wstrs_snoc];exact HO6.out,HG6.out⟩
   | i v =>
     have hm1:m+1≤1000000:=hmt;unfold Itm.val at hcell2;have a1:=as_is (.int .i64 v);have a2:=as_ii (.int .i64 v);have hwr:=write_any v wr HTO.out.1 HTO.out.2 (HT.out.below HB.out);go_wp2_with fail;refine hwr.mono ?_;rintro e w2 ⟨rfl,hb2⟩;have HBB:=Hd (bto HB.out hb2);have ho3:=own_under (own_under ho hb2) (bone w2 (.cells #[strV (Lib.itoa v)] 9));have hr1:Reads (w2.alloc (.cells #[strV (Lib.itoa v)] 9)) (w2.alloc (.cells #[strV (Lib.itoa v)] 9)).heap.size 1 (some ⟨w2.heap.size,0,none⟩) 1 [strV (Lib.itoa v)]:=reads_block (t:=9) (heap_alloc_new _ _) rfl;have HB2:=Hd (bnew HBB.out (.cells #[strV (Lib.itoa v)] 9));have hsz:w.heap.size≤(w2.alloc (.cells #[strV (Lib.itoa v)] 9)).heap.size:=HB2.out.size;clear ho hwr hb2
     go_wp2_with (first
      |(at_builtin;refine wpList_append_any _ rfl (.tmp 29) (.tmp 32) _ rfl w.heap.size 9 i0 _ 1 16 Tryz.underlying224 hi0 hz0 hz1 hz2 rfl (by omega) (.slice A m c) m _ rfl ho3 _ _ 1 1 [strV (Lib.itoa v)] rfl hr1 one_str (by simp only[maxLen];omega) (by omega) hsz ?_;intro v6 w6 hown6 hg6 hat6;clear hat6;obtain⟨A6,c6,rfl⟩:=own_shape hown6;have HO6:=Hd hown6;have HG6:=Hd (HB2.out.grown hg6 hsz (fun g hg=>(own_in ho3 hg).1));clear hown6 hg6 ho3 hr1)
      |fail)
     all_goals
      go_roundw
      case measure=>simp[intOf];omega
      case rel=>exact⟨j+1,m+1,c6,A6,L ++ [Lib.itoa v],by go_num,by omega,rfl,by rw[Hid,HTK.out,HL.out];rfl,by rw[wstrs_snoc];exact HO6.out,HG6.out⟩
   | n v =>
     have hm1:m+1≤1000000:=hmt;unfold Itm.val at hcell2;have a1:=as_ns (.int .i64 v);have a2:=as_ni (.int .i64 v);have a3:=as_nn (.int .i64 v);have hwr:=write_any v wr HTO.out.1 HTO.out.2 (HT.out.below HB.out);go_wp2_with fail;refine hwr.mono ?_;rintro e w2 ⟨rfl,hb2⟩;have HBB:=Hd (bto HB.out hb2);have ho3:=own_under (own_under ho hb2) (bone w2 (.cells #[strV (Lib.itoa v)] 9));have hr1:Reads (w2.alloc (.cells #[strV (Lib.itoa v)] 9)) (w2.alloc (.cells #[strV (Lib.itoa v)] 9)).heap.size 1 (some ⟨w2.heap.size,0,none⟩) 1 [strV (Lib.itoa v)]:=reads_block (t:=9) (heap_alloc_new _ _) rfl;have HB2:=Hd (bnew HBB.out (.cells #[strV (Lib.itoa v)] 9));have hsz:w.heap.size≤(w2.alloc (.cells #[strV (Lib.itoa v)] 9)).heap.size:=HB2.out.size;clear ho hwr hb2
     go_wp2_with (first
      |(at_builtin;refine wpList_append_any _ rfl (.tmp 37) (.tmp 40) _ rfl w.heap.size 9 i0 _ 1 16 Tryz.underlying224 hi0 hz0 hz1 hz2 rfl (by omega) (.slice A m c) m _ rfl ho3 _ _ 1 1 [strV (Lib.itoa v)] rfl hr1 one_str (by simp only[maxLen];omega) (by omega) hsz ?_;intro v6 w6 hown6 hg6 hat6;clear hat6;obtain⟨A6,c6,rfl⟩:=own_shape hown6;have HO6:=Hd hown6;have HG6:=Hd (HB2.out.grown hg6 hsz (fun g hg=>(own_in ho3 hg).1));clear hown6 hg6 ho3 hr1)
      |fail)
     all_goals
      go_roundw
      case measure=>simp[intOf];omega
      case rel=>exact⟨j+1,m+1,c6,A6,L ++ [Lib.itoa v],by go_num,by omega,rfl,by rw[Hid,HTK.out,HL.out];rfl,by rw[wstrs_snoc];exact HO6.out,HG6.out⟩
   | l B cB xs =>
     have hmx:m+xs.length≤1000000:=by
      have e:(Itm.l B cB xs).ws.length=xs.length:=by simp[Itm.ws,decs]
      omega
     obtain⟨x0,x1,x2,x3⟩:=HTO.out;have HX2:=Hd x2;have HX3:=Hd x3;obtain⟨nx,hnx⟩:∃nx,xs.length=nx:=⟨_,rfl⟩;have HNX:=Hd hnx;have hcell3:wr.cell? (ad.add j)=some (.iface 31 (.slice B nx cB)):=by rw[← hnx];exact hcell2
     rw[hnx]at hmx;clear hcell2;have H0:=HL;have HO0:=Hd ho;have a1:=as_ls (.slice B nx cB);have a2:=as_li (.slice B nx cB);have a3:=as_ln (.slice B nx cB);have a4:=as_ll (.slice B nx cB);clear x2 x3 hmt x0 x1 hnx ho;go_wp2_with fail;clear a1 a2 a3 a4
     go_loopw [3,47] (fun ov iv wr => ∃ (q m2 c2:Nat) (A2:Option Addr) (L2:List (List UInt8)),iv = .int .i64 q∧q≤nx∧ov = .slice A2 m2 c2∧Hid (L2=lineI (its.take j)++decs (xs.take q))∧Hid (wr.ownsRow w.heap.size 9 1 (.slice A2 m2 c2) m2 (wstrs L2))∧Hid (Below w.heap.size w wr)) (fun _ iv _=>nx-(intOf iv).toNat)
     case atStart=>exact⟨0,m,c,A,L,rfl,Nat.zero_le _,rfl,by rw[Hid,HL.out];simp[decs],HO0,HB⟩
     case round =>
      clear hcell3;obtain⟨q,m2,c2,A2,L2,rfl,hq,rfl,HL2,HO2,HB3⟩:=hrel;have hml2:L2.length=m2:=own_wlen HO2.out
      have hm2:m2≤m+q:=by
       have h1:=congrArg List.length HL2.out;have h2:=congrArg List.length HL.out;have h3:=HML.out;simp[decs]at h1;omega
      have HML2:=Hd hml2;clear hml2;by_cases hlq:q<nx
      ·obtain⟨u,v,ex,hub,hxv,hxc⟩:=Reads.num HX2.out (k:=q) (by rw[HNX.out];exact hlq)
       subst ex;have hc2:=(HB3.out.cell (p:=u.add q) (by rw[block_of_add];exact hub)).trans hxc;have hv:=HX3.out v (List.mem_of_getElem? hxv);have HDT:=Hd (decs_take hxv);have ho:=HO2.out;have hm1:m2+1≤1000000:=by omega
       have q0:(0:Int)≤(q:Int):=Int.natCast_nonneg _;have q1:(q:Int)<(nx:Int):=by omega
       clear hxv hxc hub hm2;have hwr:=write_any v wr hv.1 hv.2 (HT.out.below HB3.out);go_wp2_with fail;refine hwr.mono ?_;rintro e w2 ⟨rfl,hb2⟩;have HBB:=Hd (bto HB3.out hb2);have ho3:=own_under (own_under ho hb2) (bone w2 (.cells #[strV (Lib.itoa v)] 9));have hr1:Reads (w2.alloc (.cells #[strV (Lib.itoa v)] 9)) (w2.alloc (.cells #[strV (Lib.itoa v)] 9)).heap.size 1 (some ⟨w2.heap.size,0,none⟩) 1 [strV (Lib.itoa v)]:=reads_block (t:=9) (heap_alloc_new _ _) rfl;have HB2:=Hd (bnew HBB.out (.cells #[strV (Lib.itoa v)] 9));have hsz:w.heap.size≤(w2.alloc (.cells #[strV (Lib.itoa v)] 9)).heap.size:=HB2.out.size;clear ho hwr hb2
       go_wp2_with (first
        |(at_builtin;refine wpList_append_any _ rfl (.tmp 51) (.tmp 54) _ rfl w.heap.size 9 i0 _ 1 16 Tryz.underlying224 hi0 hz0 hz1 hz2 rfl (by omega) (.slice A2 m2 c2) m2 _ rfl ho3 _ _ 1 1 [strV (Lib.itoa v)] rfl hr1 one_str (by simp only[maxLen];omega) (by omega) hsz ?_;intro v6 w6 hown6 hg6 hat6;clear hat6;obtain⟨A6,c6,rfl⟩:=own_shape hown6;have HO6:=Hd hown6;have HG6:=Hd (HB2.out.grown hg6 hsz (fun g hg=>(own_in ho3 hg).1));clear hown6 hg6 ho3 hr1)
        |fail)
       all_goals
        go_roundw
        case measure=>simp[intOf];omega
        case rel=>exact⟨q+1,m2+1,c6,A6,L2 ++ [Lib.itoa v],by go_num,by omega,rfl,by rw[Hid,HDT.out,HL2.out];simp,by rw[Hid,wstrs_snoc];exact HO6.out,HG6⟩
      ·obtain rfl:q=nx:=by omega
       go_wp2_with fail;go_roundw
       case measure=>simp[intOf];omega
       case rel=>exact⟨j+1,m2,c2,A2,L2,by go_num,by omega,rfl,by rw[Hid,HTK.out,HL2.out,← HNX.out,List.take_length];rfl,HO2.out,HB3.out⟩
  ·obtain rfl:j=n:=by omega
   have hLL:L=lineI its:=by rw[HL.out,← HN.out,List.take_length]
   have hmm:m≤1000000:=by have:=HLN.out;rw[← hLL,hml]at this;exact this
   have hjw:(joinW L).length≤999999:=by rw[hLL];exact HLJ.out
   have hjn:=wjoin_any ho hmm (by omega);have hadd:=lineadd (joinW L) (by omega);have HB:=Hd hb;have HLL:=Hd hLL;clear ho hb hml hLL hmm hjw;go_wp2_with fail;refine hjn.mono ?_;rintro e w2 ⟨rfl,hb2⟩;have HB2:=Hd (bto HB.out hb2);clear hjn hb2;go_wp2_with fail;go_ret;exact⟨by rw[← HLL.out];rfl,HB2.out⟩
end Go.Proofs.YtjpkkkphhaajgaaGreatDoor.wcp

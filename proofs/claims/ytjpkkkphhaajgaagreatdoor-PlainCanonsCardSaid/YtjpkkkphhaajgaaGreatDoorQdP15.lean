/- a part -/
import Derived.Test.YtjpkkkphhaajgaaGreatDoorQdP08
import Derived.Lib.ConvBytes
set_option linter.all false
namespace Go.Proofs.YtjpkkkphhaajgaaGreatDoor.scn
open Go RowKit ChangeShapes WideShapes ChangeAt words
abbrev bw (w:World) (l:List UInt8):World:=Lib.bytesWorld w 5 ⟨l.toArray⟩
theorem conv_str (l:List UInt8)(w:World):(convert 9 22 (.string ⟨l.toArray⟩)).run Tryz.prog w = .ok (.slice (some ⟨w.heap.size,0,none⟩) l.length (grownCap w l.length 0 5)) (bw w l):=by
 have h:=Lib.run_convert_string_bytes (P:=Tryz.prog) w 9 22 5 ⟨l.toArray⟩ (u := .string) Tryz.underlying9 Tryz.underlying22 Tryz.underlying5;have e:(⟨l.toArray⟩:ByteArray).size=l.length:=by simp[ByteArray.size]
 rw[e]at h;exact h
theorem bw_size (w:World)(l:List UInt8):(bw w l).heap.size=w.heap.size+1:=by
 simp[bw,Lib.bytesWorld,World.freeze,World.alloc,World.drew,-World.alloc_eq,-World.drew_eq]
theorem bw_below (w:World)(l:List UInt8):Below w.heap.size w (bw w l) :=
 ⟨rfl,rfl,rfl,by rw[bw_size];omega,fun i hi=>Lib.bytesWorld_at_old w 5 _ i hi⟩
theorem bw_reads (w:World)(l:List UInt8):Reads (bw w l) (bw w l).heap.size 1 (some ⟨w.heap.size,0,none⟩) l.length (bv l):=by
 refine⟨by simp[bv],fun _=>⟨_,rfl,by rw[bw_size];simp,fun j u hu=>?_⟩⟩;have e:(Addr.add ⟨w.heap.size,0,none⟩ j)=⟨w.heap.size,j,none⟩:=by unfold Addr.add;split<;>simp_all
 have hj:j<l.length:=by
  have:=(List.getElem?_eq_some_iff.1 hu).1
  simpa [bv] using this
 rw[e,Lib.bytesWorld_cell w 5 ⟨l.toArray⟩ j (by simp[ByteArray.size];exact hj)];unfold bv at hu;rw[List.getElem?_map,List.getElem?_eq_getElem hj]at hu;rw[← Option.some.inj hu];simp[List.getD_eq_getElem?_getD,hj]
end Go.Proofs.YtjpkkkphhaajgaaGreatDoor.scn
namespace Go.Proofs.YtjpkkkphhaajgaaGreatDoor.wcp
open Go RowKit ChangeShapes WideShapes ChangeAt words scn
def IsWord (l:List UInt8):Prop:=l ≠ []∧∀q,q<l.length→isIn (at_ l q)=true
theorem IsWord.next {l:List UInt8}(h:IsWord l):scn.Next l 0 (.word 0 l.length):=by
 have h0:0<l.length:=List.length_pos_iff.2 h.1;exact⟨0,l.length,⟨Nat.le_refl _,Nat.zero_le _,fun j h1 h2=>by omega,fun _=>in_not_b (h.2 0 h0)⟩,⟨Nat.zero_le _,Nat.le_refl _,fun q _ hq=>h.2 q hq,fun h=>by omega⟩,.inr (.inr ⟨fun hw=>by have:=hw.1;omega,h0,rfl⟩)⟩
theorem IsWord.told {l:List UInt8}(h:IsWord l):scn.Told l [(l,0)] (-1):=by
 have hs:sub l 0 l.length=l:=by unfold sub;simp
 refine⟨l.length,?_,.inl ⟨rfl,?_⟩⟩
 ·have:=Chain.cons h.next (.nil l.length)
  rw[hs]at this;exact this
 ·exact⟨l.length,l.length,⟨Nat.le_refl _,Nat.le_refl _,fun j h1 h2=>by omega,fun h=>by omega⟩,⟨Nat.le_refl _,Nat.le_refl _,fun q h1 h2=>by omega,fun h=>by omega⟩,.inr (.inl ⟨fun hw=>by have:=hw.1;omega,rfl,rfl⟩)⟩
set_option maxHeartbeats 4000000 in
theorem isword_any (l:List UInt8)(h:IsWord l)(hl:l.length≤1000000)(w:World):Calls Tryz.prog 93 #[strV l] w fun e w'=>e = .returned (.bool true)∧Below w.heap.size w w':=by
 have hcv:=conv_str l;have hcount:=count_any (some ⟨w.heap.size,0,none⟩) l.length (grownCap w l.length 0 5) l [(l,0)] (-1) (bw w l) hl rfl (bw_reads w l) h.told;have HW:=Hd h;have HB1:=Hd (bw_below w l);clear h
 go_enter Tryz.func93,Tryz.ntmps93
 go_wp2_with fail;refine hcount.mono ?_;rintro e w1 ⟨en,er,rfl,hc,hb1⟩
 obtain⟨rfl,rfl⟩:en=l.length∧er=0:=by
  rcases hc with⟨_,h1,h2⟩ | ⟨h1,_⟩
  ·exact⟨h1,h2⟩
  ·omega
 have HB2:=Hd (bto HB1.out hb1);have hnew:=new_any (some ⟨w1.heap.size,0,none⟩) l.length (grownCap w1 l.length 0 5) l (bw w1 l) hl (bw_reads w1 l);clear hcount hc hb1;go_wp2_with fail;refine hnew.mono ?_;rintro e w2 ⟨g,rfl,hs2,hg2,hb2⟩;have HB3:=Hd (bto HB2.out (bto (bw_below w1 l) hb2));have hwd:=word_any hs2 (Nat.zero_le _) hl;have hgw:w.heap.size≤g:=by have:=HB2.out.size;have:=bw_size w1 l;omega
 clear hnew hb2 hs2 hg2;go_wp2_with fail;refine hwd.mono ?_;rintro e w3 (⟨i,k1,rfl,hs3,ht⟩ | ⟨k1,rfl,hs3,ht⟩ | ⟨i,j,k1,rfl,hs3,ht⟩)
 ·exact absurd (k1.uniq HW.out.next) (by intro h;cases h)
 ·exact absurd (k1.uniq HW.out.next) (by intro h;cases h)
 ·have h1:=k1.uniq HW.out.next
  injection h1 with h1 h2
  subst h1 h2;have hs:sub l 0 l.length=l:=by unfold sub;simp
  rw[hs];have HB4:=Hd (HB3.out.trans (ht.below HB3.out.size fun q hq h=>by omega));clear hwd k1 ht hs3;go_wp2_with fail;go_ret;exact⟨ret_bool (by simp),HB4.out⟩
end Go.Proofs.YtjpkkkphhaajgaaGreatDoor.wcp

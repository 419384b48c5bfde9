/- a part -/
import Derived.Test.YtjpkkkphhaajgaaGreatDoorQdP01
import Derived.ProofKit
import Derived.OpenShut
import Derived.Deep.Fields
import Derived.Test.YtjpkkkphhaajgaaGreatDoorQdTakes
set_option linter.all false
namespace Go.Proofs.YtjpkkkphhaajgaaGreatDoor.words
open Go RowKit ChangeShapes WideShapes Go.Deep
theorem flat_len {α:Type}(f:α→List Value)(s:Nat)(hs:∀x,(f x).length=s)(zs:List α):(zs.flatMap f).length=zs.length*s:=by
 induction zs with
 |nil=>simp
 |cons z zs ih=>rw[List.flatMap_cons,List.length_append,ih,hs,List.length_cons,Nat.add_mul,Nat.one_mul,Nat.add_comm]
theorem flat_get {α:Type}(f:α→List Value)(s:Nat)(hs:∀x,(f x).length=s)(zs:List α)(i j:Nat)(z:α)(hz:zs[i]?=some z)(hj:j<s):(zs.flatMap f)[i*s+j]?=(f z)[j]?:=by
 induction zs generalizing i with
 |nil=>simp at hz
 | cons y zs ih =>
   rw[List.flatMap_cons]
   cases i with
   | zero =>
     simp at hz;subst hz
     rw[Nat.zero_mul,Nat.zero_add,List.getElem?_append_left (by rw[hs];exact hj)]
   | succ i =>
     simp at hz;rw[List.getElem?_append_right (by rw[hs,Nat.add_mul];omega),hs,show (i+1)*s+j-s=i*s+j by rw[Nat.add_mul];omega];exact ih i hz
theorem flat_one {α:Type}(f:α→Value)(zs:List α):zs.flatMap (fun x => [f x])=zs.map f:=by
 induction zs with
 |nil=>rfl
 |cons z zs ih=>rw[List.flatMap_cons,ih];rfl
theorem list_of (α:Type)(n:Nat)(R:Nat→α→Prop)(h:∀i,i<n→∃x,R i x):∃zs:List α,zs.length=n∧∀i z,zs[i]?=some z→R i z:=by
 induction n with
 |zero=>exact⟨[],rfl,fun i z hz=>by simp at hz⟩
 | succ n ih =>
   obtain⟨zs,hl,hz⟩:=ih fun i hi=>h i (by omega)
   obtain⟨x,hx⟩:=h n (by omega);refine⟨zs ++ [x],by simp[hl],fun i z hzi=>?_⟩;rcases Nat.lt_or_ge i n with hi | hi
   ·rw[List.getElem?_append_left (by omega)]at hzi;exact hz i z hzi
   ·have hlt:=(List.getElem?_eq_some_iff.1 hzi).1
    simp[hl]at hlt;obtain rfl:i=n:=by omega
    rw[List.getElem?_append_right (by omega)]at hzi;simp[hl]at hzi;subst hzi;exact hx
section
variable {H:Type} {enc:TypeId × Value→H} {P:Program} {W:World} {spare:Nat→Bool} {held:Bool}
theorem open_rows {α:Type}(f:α→List Value)(Q:α→Prop){s:Nat}(hs:∀x,(f x).length=s)(hs0:0<s){t e:TypeId}(ht:P.underlying t=some (.slice e))(hC:P.cellsOf e=s)
 (hdec:∀ (n:Nat) (cs:List Value) (y:DataW H × List MemPlace),DataW.trod enc P W 0 spare held n e cs=some y→∃x,cs=f x∧Q x)
 {a:Option Addr} {len cap:Nat} {d:DataW H} {p:List MemPlace} (h:DataW.Trod enc P W 0 spare held t (.slice a len cap) d p) :
 ∃zs:List α,zs.length=len∧Reads W W.heap.size s a len (zs.flatMap f)∧(∀x∈zs,Q x)∧len≤cap∧len≤9223372036854775807:=by
 obtain⟨fuel,hf⟩:=h;rcases open_slice ht (by simpa [Value.cells] using hf) with⟨h1,_⟩ | ⟨ad,l,c,m,n,D,Pl,h1,_,hl,hm,hmm,_,hi⟩
 ·simp at h1
  obtain⟨rfl,rfl,rfl⟩:=h1;exact⟨[],rfl,by simpa using Reads.none_,by simp,by omega,by omega⟩
 ·simp at h1
  obtain⟨rfl,rfl,rfl⟩:=h1;have hlm:len≤m:=by rw[hmm];split<;>omega
  obtain⟨zs,hzl,hz⟩:=list_of α len (fun i x=>W.cells? 0 (ad.add (i*s)) s=some (f x)∧Q x) fun i hil=>by
   obtain⟨cs',hc,ht'⟩:=hi i (by omega);rw[hC]at hc;obtain⟨x,rfl,hq⟩:=hdec _ _ _ ht';exact⟨x,hc,hq⟩
  have hcell:∀i z j u,zs[i]?=some z→(f z)[j]?=some u→W.cell? (ad.add (i*s+j))=some u:=fun i z j u hzi hu=>by
   have hj:j<s:=by rw[← hs z];exact (List.getElem?_eq_some_iff.1 hu).1
   obtain⟨_,_,hat⟩:=World.cells?_some (hz i z hzi).1;rw[← Go.Deep.add_add,hat j hj];exact hu
  refine⟨zs,hzl,⟨by rw[flat_len f s hs,hzl],fun h0=>⟨ad,rfl,?_,fun j u hu=>?_⟩⟩,fun x hx=>?_,hl,by unfold maxLen at hm;omega⟩
  ·obtain⟨z,hz0⟩:∃z,zs[0]?=some z:=⟨_,List.getElem?_eq_getElem (by omega)⟩
   have hf0:(f z)[0]?=some ((f z)[0]'(by rw[hs];exact hs0)):=List.getElem?_eq_getElem _;have:=World.block_lt_of_cell? W _ (hcell 0 z 0 _ hz0 hf0)
   rwa [block_of_add]at this
  ·have hjl:=(List.getElem?_eq_some_iff.1 hu).1
   rw[flat_len f s hs]at hjl;have hq:j / s<zs.length:=Nat.div_lt_of_lt_mul (by rw[Nat.mul_comm];exact hjl);have hr:j % s<s:=Nat.mod_lt _ hs0;have hz0:zs[j / s]?=some (zs[j / s]'hq):=List.getElem?_eq_getElem hq;have e:j / s*s+j % s=j:=by rw[Nat.mul_comm];exact Nat.div_add_mod j s
   have hg:=flat_get f s hs zs (j / s) (j % s) _ hz0 hr;rw[e,hu]at hg;have:=hcell (j / s) _ (j % s) u hz0 hg.symm
   rwa [e]at this
  ·obtain⟨i,hi',rfl⟩:=List.mem_iff_getElem.1 hx
   exact (hz i _ (List.getElem?_eq_getElem hi')).2
theorem open_ones {α:Type}(f:α→Value)(Q:α→Prop){t e:TypeId}(ht:P.underlying t=some (.slice e))(hC:P.cellsOf e=1)
 (hdec:∀ (n:Nat) (cs:List Value) (y:DataW H × List MemPlace),DataW.trod enc P W 0 spare held n e cs=some y→∃x,cs = [f x]∧Q x)
 {a:Option Addr} {len cap:Nat} {d:DataW H} {p:List MemPlace} (h:DataW.Trod enc P W 0 spare held t (.slice a len cap) d p) :
 ∃zs:List α,zs.length=len∧Reads W W.heap.size 1 a len (zs.map f)∧(∀x∈zs,Q x)∧len≤cap∧len≤9223372036854775807:=by
 obtain⟨zs,h1,h2,h3⟩:=open_rows (s:=1) (fun x => [f x]) Q (fun _=>rfl) Nat.one_pos ht hC hdec h;rw[flat_one]at h2;exact⟨zs,h1,h2,h3⟩
theorem dec_int {e:TypeId}{k:IntKind}(he:P.underlying e=some (.int k))(n:Nat)(cs:List Value)(y:DataW H × List MemPlace)(h:DataW.trod enc P W 0 spare held n e cs=some y):∃x,cs = [.int k x]∧(Lit.int k x).wf=true:=by
 obtain⟨x,rfl,_,hw⟩:=DataW.trod_int he h;exact⟨x,rfl,hw⟩
end
end Go.Proofs.YtjpkkkphhaajgaaGreatDoor.words
namespace Go.Proofs.YtjpkkkphhaajgaaGreatDoor.scn
open Go RowKit ChangeShapes WideShapes ChangeAt words
def bv (bs:List UInt8):List Value:=bs.map fun b=>Value.int .u8 (b.toNat:Nat)
theorem bv_len (bs:List UInt8):(bv bs).length=bs.length:=by simp[bv]
theorem bv_get {bs:List UInt8}{i:Nat}(h:i<bs.length):(bv bs)[i]?=some (.int .u8 (at_ bs i:Nat)):=by
 unfold bv at_;rw[List.getElem?_map,List.getD_eq_getElem?_getD,List.getElem?_eq_getElem h];rfl
theorem bv_one {bs:List UInt8}:∀u∈bv bs,u.oneCell'=true:=fun u hu=>by
 obtain⟨b,_,rfl⟩:=List.mem_map.1 hu;rfl
theorem infoB:(Tryz.prog.info? 5).map (fun i=>(i.zero,i.size,i.bytes))=some (some (.int .u8 0),1,1):=by kernel_rfl
theorem between_any (b:Nat)(w:World):Calls Tryz.prog 138 #[.int .u8 b] w fun e w'=>e = .returned (.bool (isB b))∧w=w':=by
 by_cases h1:b=32
 ·subst h1
  go_enter Tryz.func138,Tryz.ntmps138
  go_wp2
  go_ret;exact⟨rfl,rfl⟩
 by_cases h2:b=9
 ·subst h2
  go_enter Tryz.func138,Tryz.ntmps138
  go_wp2
  go_ret;exact⟨rfl,rfl⟩
 by_cases h3:b=10
 ·subst h3
  go_enter Tryz.func138,Tryz.ntmps138
  go_wp2
  go_ret;exact⟨rfl,rfl⟩
 by_cases h4:b=13
 ·subst h4
  go_enter Tryz.func138,Tryz.ntmps138
  go_wp2
  go_ret;exact⟨rfl,rfl⟩
 have e1:((b:Int)==32)=false:=by simp;omega
 have e2:((b:Int)==9)=false:=by simp;omega
 have e3:((b:Int)==10)=false:=by simp;omega
 have e4:((b:Int)==13)=false:=by simp;omega
 have e5:isB b=false:=by simp[isB];omega
 rw[e5];clear h1 h2 h3 h4 e5
 go_enter Tryz.func138,Tryz.ntmps138
 go_wp2
 go_ret;exact⟨rfl,rfl⟩
theorem in_any (b:Nat)(w:World):Calls Tryz.prog 137 #[.int .u8 b] w fun e w'=>e = .returned (.bool (isIn b))∧w=w':=by
 unfold isIn;by_cases h1:33≤b
 ·by_cases h2:b≤126
  ·rw[decide_eq_true h1,decide_eq_true h2]
   have e1:decide ((33:Int)≤(b:Int))=true:=decide_eq_true (by omega);have e2:decide ((b:Int)≤126)=true:=decide_eq_true (by omega);clear h1 h2
   go_enter Tryz.func137,Tryz.ntmps137
   go_wp2
   go_ret;exact⟨rfl,rfl⟩
  ·rw[decide_eq_true h1,decide_eq_false h2]
   have e1:decide ((33:Int)≤(b:Int))=true:=decide_eq_true (by omega);have e2:decide ((b:Int)≤126)=false:=decide_eq_false (by omega);clear h1 h2
   go_enter Tryz.func137,Tryz.ntmps137
   go_wp2
   go_ret;exact⟨rfl,rfl⟩
 ·rw[decide_eq_false h1]
  have e1:decide ((33:Int)≤(b:Int))=false:=decide_eq_false (by omega);clear h1
  go_enter Tryz.func137,Tryz.ntmps137
  go_wp2
  go_ret;exact⟨rfl,rfl⟩
def Bytes (bs:List UInt8)(w:World)(e:Ending)(w':World):Prop := ∃A c,e = .returned (.slice A bs.length c)∧w'.ownsRow w.heap.size 5 1 (.slice A bs.length c) bs.length (bv bs)∧Below w.heap.size w w'
theorem clone_any (A:Option Addr)(n cap:Nat)(bs:List UInt8)(w:World)(hn:n≤1000000)(hr:Reads w w.heap.size 1 A n (bv bs)) :
 Calls Tryz.prog 132 #[.slice A n cap] w fun e w'=>Bytes bs w e w':=by
 obtain⟨i0,hi0,hz0,hz1,hz2⟩:=info_parts infoB;have hlen:bs.length=n:=by have:=hr.1;rw[bv_len]at this;omega
 have hnil:=fun w a n c n' c'=>Lib.run_eql_slice_nil (P:=Tryz.prog) w 22 5 a n c n' c' Tryz.underlying22
 cases A with
 | none =>
   have hn0:n=0:=by
    rcases Nat.eq_zero_or_pos n with h | h
    ·exact h
    ·obtain⟨ad,h,_⟩:=hr.2 h;cases h
   subst hn0;have hx:bs = []:=List.eq_nil_of_length_eq_zero hlen;subst hx
   go_enter Tryz.func132,Tryz.ntmps132
   go_wp2
   go_ret
   exact⟨_,_,rfl,World.ownsRow_nil _ _ _ _,Below.refl _ _⟩
 | some ad =>
   have hlit:=World.ownsRow_lit (base:=w.heap.size) (e:=5) (size:=1) w #[] 0 (Nat.le_refl _) (by unfold maxLen;omega) rfl;have hr1:=hr.alloc (Nat.le_refl _) (.cells #[] 5)
   go_enter Tryz.func132,Tryz.ntmps132
   go_wp2_with (first
    |(at_builtin;refine wpList_append_any _ rfl (.tmp 5) (.tmp 6) _ rfl w.heap.size 5 i0 _ 1 1 Tryz.underlying22 hi0 hz0 hz1 hz2 rfl (by omega) _ 0 [] rfl hlit w.heap.size (some ad) n cap (bv bs) rfl hr1 bv_one (by simp only[maxLen];omega) (by omega) (by simp) ?_;intro v1 w1 hown hg1 _))
   go_ret;have hg2:(w.alloc (.cells #[] 5)).grownBy w1 (some w.heap.size):=hg1;obtain⟨A1,c1,rfl⟩:=own_shape hown;rw[Nat.zero_add,List.nil_append]at hown;rw[Nat.zero_add];refine⟨A1,c1,by rw[hlen];rfl,by rw[hlen];exact hown,((Below.refl _ _).alloc (Nat.le_refl _) _).grown hg2 (by simp) (by simp)⟩
def Scn (w:World)(g:Nat)(bs:List UInt8)(a:Nat)(bad:Int):Prop :=
 ∃A c,Blk w g 228 #[.slice A bs.length c,.int .i64 a,.int .i64 bad]∧w.ownsRow 0 5 1 (.slice A bs.length c) bs.length (bv bs)
theorem Scn.tch {w w':World}{g:Nat}{bs:List UInt8}{a:Nat}{bad:Int}{S:Nat→Prop}(h:Scn w g bs a bad)(ht:Tch w w' S)(hg:¬ S g)(hs:∀k cs,S k→¬ Blk w k 5 cs):Scn w' g bs a bad:=by
 obtain⟨A,c,hb,ho⟩:=h;refine⟨A,c,ht.blk hb hg,ht.own ho fun k hk hS=>?_⟩;rcases ho.2 with⟨h0,_⟩ | ⟨q,cap,cur,h0,_,hh,_⟩
 ·rw[h0]at hk;cases hk
 ·rw[h0]at hk
  injection hk with hk
  subst hk;exact hs _ _ hS hh
theorem Scn.below {w w':World}{g:Nat}{bs:List UInt8}{a:Nat}{bad:Int}(h:Scn w g bs a bad)(hb:Below w.heap.size w w'):Scn w' g bs a bad:=h.tch (Tch.of_below hb (fun _=>False)) id fun _ _ h=>h.elim
theorem new_any (A:Option Addr)(n cap:Nat)(bs:List UInt8)(w:World)(hn:n≤1000000)(hr:Reads w w.heap.size 1 A n (bv bs)) :
 Calls Tryz.prog 74 #[.slice A n cap] w fun e w' => ∃g,e = .returned (.pointer (some ⟨g,0,none⟩))∧Scn w' g bs 0 (-1)∧w.heap.size≤g∧Below w.heap.size w w':=by
 have hcl:=clone_any A n cap bs w hn hr;clear hr
 go_enter Tryz.func74,Tryz.ntmps74
 go_wp2_with fail;refine hcl.mono ?_;rintro e w1 ⟨A1,c1,rfl,ho,hb⟩;have hfin:Hid (Scn (w1.alloc (.cells #[.slice A1 bs.length c1,.int .i64 (0:Nat),.int .i64 (-1)] 228)) w1.heap.size bs 0 (-1)):=⟨A1,c1,Blk.new _ _ _,own_base (own_under ho (bone _ _)) (Nat.zero_le _)⟩;clear hcl ho;go_wp2_with fail;go_ret;exact⟨_,rfl,hfin.out,hb.size,bnew hb _⟩
section
variable {w:World} {g:Nat} {bs:List UInt8} {a:Nat} {bad:Int}
theorem Scn.heads (h:Scn w g bs a bad):∃A c,w.cell? ⟨g,0,none⟩=some (.slice A bs.length c)∧w.cell? ⟨g,1,none⟩=some (.int .i64 a)∧w.cell? ⟨g,2,none⟩=some (.int .i64 bad)∧bs.length≤c ∧
 (∀i,i<bs.length→∃r,A=some ⟨r,0,none⟩∧r≠g∧w.cell? ⟨r,i,none⟩=some (.int .u8 (at_ bs i:Nat))):=by
 obtain⟨A,c,hb,ho⟩:=h;refine⟨A,c,hb.cell 0,hb.cell 1,hb.cell 2,own_cap ho,fun i hi=>?_⟩;obtain⟨r,rfl,_,hr⟩:=own_some ho (by omega);exact⟨r,rfl,fun e=>own_blk_ne ho hb (by decide) (by rw[e];rfl),(ho.cellAt i (by omega)).trans (bv_get hi)⟩
theorem skip_any (h:Scn w g bs a bad)(ha:a≤bs.length)(hn:bs.length≤1000000) :
 Calls Tryz.prog 136 #[.pointer (some ⟨g,0,none⟩)] w fun e w' => ∃i:Nat,e = .returned (.int .i64 i)∧Skip bs a i∧w=w':=by
 obtain⟨A,c,q0,q1,q2,hc,hat⟩:=h.heads;clear h;obtain⟨n,hl⟩:∃n,bs.length=n:=⟨_,rfl⟩;have HL:=Hd hl;rw[hl]at q0 hc hat ha hn;clear hl
 go_enter Tryz.func136,Tryz.ntmps136
 go_wp2_with fail
 go_loopw [3] (fun iv wr => ∃i:Nat,iv = .int .i64 i∧a≤i∧i≤n∧(∀j,a≤j→j<i→isB (at_ bs j)=true)∧w=wr) (fun iv _=>n-(intOf iv).toNat)
 case atStart=>exact⟨a,rfl,Nat.le_refl _,ha,fun j h1 h2=>by omega,rfl⟩
 case round =>
  obtain⟨i,rfl,h1,h2,hall,rfl⟩:=hrel;have HA:=Hd hall;clear hall;by_cases hlt:i<n
  ·obtain⟨r,rfl,hrg,hcell⟩:=hat i hlt
   have hbt:=between_any (at_ bs i) w;obtain⟨b,hb⟩:∃b,isB (at_ bs i)=b:=⟨_,rfl⟩;rw[hb]at hbt;have HB:=Hd hb;obtain⟨x,hx⟩:∃x,at_ bs i=x:=⟨_,rfl⟩;rw[hx]at hbt hcell;clear hb hat hx
   cases b with
   | true =>
     go_wp2_with fail;refine hbt.mono ?_;rintro e w1 ⟨rfl,rfl⟩;clear hbt;go_wp2_with fail;go_roundw
     case rel =>
      refine⟨i+1,by go_num,by omega,by omega,fun j j1 j2=>?_,by first | rfl | trivial⟩;by_cases e:j=i
      ·rw[e];exact HB.out
      ·exact HA.out j j1 (by omega)
     case measure=>simp[intOf];omega
   | false =>
     go_wp2_with fail;refine hbt.mono ?_;rintro e w1 ⟨rfl,rfl⟩;clear hbt;go_wp2_with fail;go_ret;exact⟨i,rfl,⟨h1,by rw[HL.out];exact h2,HA.out,fun _=>HB.out⟩,rfl⟩
  ·obtain rfl:n=i:=by omega
   clear hat;go_wp2_with fail;go_ret;exact⟨n,rfl,⟨h1,by rw[HL.out];exact h2,HA.out,fun h=>by rw[HL.out]at h;omega⟩,rfl⟩
end
end Go.Proofs.YtjpkkkphhaajgaaGreatDoor.scn
namespace Go.Proofs.YtjpkkkphhaajgaaGreatDoor.scn
open Go words ChangeShapes WideShapes ChangeAt RowKit
theorem infoB8:(Tryz.prog.info? 5).map (fun i=>(i.zero,i.size,i.bytes))=some (some (.int .u8 0),1,1):=by kernel_rfl
def CopiedB (w:World)(xs:List UInt8)(e:Ending)(w':World):Prop := ∃A c,e = .returned (.slice A xs.length c)∧w'.ownsRow w.heap.size 5 1 (.slice A xs.length c) xs.length (bv xs)∧Below w.heap.size w w'
theorem cloneB_any (A:Option Addr)(n cap:Nat)(xs:List UInt8)(w:World)(hn:n≤17592186044415)(hr:Reads w w.heap.size 1 A n (bv xs)) :
 Calls Tryz.prog 33 #[.slice A n cap] w fun e w'=>CopiedB w xs e w':=by
 obtain⟨i0,hi0,hz0,hz1,hz2⟩:=info_parts infoB8;have hlen:=(by have:=hr.1;simpa [bv] using this:xs.length=n);have hnil:=fun w a n c n' c'=>Lib.run_eql_slice_nil (P:=Tryz.prog) w 22 5 a n c n' c' Tryz.underlying22
 cases A with
 | none =>
   have hn0:n=0:=by
    rcases Nat.eq_zero_or_pos n with h | h
    ·exact h
    ·obtain⟨ad,h,_⟩:=hr.2 h;cases h
   subst hn0;have hx:xs = []:=List.eq_nil_of_length_eq_zero hlen;subst hx
   go_enter Tryz.func33,Tryz.ntmps33
   go_wp2
   go_ret
   exact⟨_,_,rfl,World.ownsRow_nil _ _ _ _,Below.refl _ _⟩
 | some ad =>
   have hlit:=World.ownsRow_lit (base:=w.heap.size) (e:=5) (size:=1) w #[] 0 (Nat.le_refl _) (by unfold maxLen;omega) rfl;have hr1:=hr.alloc (Nat.le_refl _) (.cells #[] 5)
   go_enter Tryz.func33,Tryz.ntmps33
   go_wp2_with (first
    |(at_builtin;refine wpList_append_any _ rfl (.tmp 5) (.tmp 6) _ rfl w.heap.size 5 i0 _ 1 1 Tryz.underlying22 hi0 hz0 hz1 hz2 rfl (by omega) _ 0 [] rfl hlit w.heap.size (some ad) n cap (bv xs) rfl hr1 bv_one (by simp only[maxLen];omega) (by omega) (by simp) ?_;intro v1 w1 hown hg1 _))
   go_ret;have hg2:(w.alloc (.cells #[] 5)).grownBy w1 (some w.heap.size):=hg1;obtain⟨A1,c1,rfl⟩:=own_shape hown;rw[Nat.zero_add,List.nil_append]at hown;rw[Nat.zero_add];refine⟨A1,c1,by rw[hlen];rfl,by rw[hlen];exact hown,((Below.refl _ _).alloc (Nat.le_refl _) _).grown hg2 (by simp) (by simp)⟩
end Go.Proofs.YtjpkkkphhaajgaaGreatDoor.scn

/- a part -/
import Derived.Test.YtjpkkkphhaajgaaGreatDoorQdP02
import Derived.Deep.DeepCutAuto
import Derived.Deep.RegionHeld3
import Derived.Test.YtjpkkkphhaajgaaGreatDoorQdP04
set_option linter.all false
namespace Go.Proofs.YtjpkkkphhaajgaaGreatDoor.scn
open Go RowKit ChangeShapes WideShapes ChangeAt words
abbrev strV (l:List UInt8):Value := .string ⟨l.toArray⟩
variable {w:World} {g:Nat} {bs:List UInt8} {a:Nat} {bad:Int}
theorem Scn.put (h:Scn w g bs a bad):(∀i:Nat,Scn (w.setCell ⟨g,1,none⟩ (.int .i64 i)) g bs i bad)∧(∀b:Int,Scn (w.setCell ⟨g,2,none⟩ (.int .i64 b)) g bs a b)∧w.frozen? ⟨g,1,none⟩=false∧w.frozen? ⟨g,2,none⟩=false:=by
 obtain⟨A,c,hb,ho⟩:=h;have key:∀ (o:Nat) (u:Value),(w.setCell ⟨g,o,none⟩ u).ownsRow 0 5 1 (.slice A bs.length c) bs.length (bv bs):=fun o u=>(Tch.set_ w (S:=fun k=>k=g) (p:=⟨g,o,none⟩) u rfl).own ho fun q hq e=>own_blk_ne ho hb (by decide) (by rw[hq,e])
 exact⟨fun i=>⟨A,c,hb.set_ 1 (.int .i64 i),key _ _⟩,fun b=>⟨A,c,hb.set_ 2 (.int .i64 b),key _ _⟩,hb.frozen 1,hb.frozen 2⟩
theorem Scn.conv (h:Scn w g bs a bad){i j:Nat}(hij:i<j)(hj:j≤bs.length):∃r c,w.cell? ⟨g,0,none⟩=some (.slice (some ⟨r,0,none⟩) bs.length c)∧∀k w',Below w.heap.size w w'∨Tch w w' (fun q=>q=g)→(convert 22 9 (.slice (some ⟨r,i,none⟩) (j-i) k)).run Tryz.prog w' = .ok (strV (sub bs i j)) w':=by
 obtain⟨A,c,hb,ho⟩:=h;obtain⟨r,rfl,_,hr⟩:=own_some ho (by omega);refine⟨r,c,hb.cell 0,fun k w' hw=>?_⟩
 have ho':w'.ownsRow 0 5 1 (.slice (some ⟨r,0,none⟩) bs.length c) bs.length (bv bs):=by
  rcases hw with hw | hw
  ·exact own_under ho hw
  ·exact hw.own ho fun q hq e=>own_blk_ne ho hb (by decide) (by rw[hq,e])
 have hl:=sub_len (i:=i) hj
 have:=run_convert_bytes_back (P:=Tryz.prog) w' 22 9 5 ⟨r,i,none⟩ k (sub bs i j) Tryz.underlying22 Tryz.underlying5 Tryz.underlying9 (fun q hq=>by
  rw[hl]at hq;have e:(Addr.add ⟨r,i,none⟩ q)=⟨r,i+q,none⟩:=by unfold Addr.add;split<;>simp_all
  rw[e,(ho'.cellAt (i+q) (by omega)).trans (bv_get (by omega))]
  have e2:(sub bs i j)[q]'(by rw[hl];exact hq)=bs.getD (i+q) 0:=by
   unfold sub;rw[List.getElem_drop,List.getElem_take,List.getD_eq_getElem?_getD,List.getElem?_eq_getElem (by omega)];rfl
  rw[e2];rfl)
 rw[hl]at this;exact this
def WordOf (w:World)(g:Nat)(bs:List UInt8)(a:Nat)(e:Ending)(w':World):Prop :=
 (∃i,Next bs a (.bad i)∧e = .returned (.tuple #[strV [],.int .i64 i,.int .i64 11])∧Scn w' g bs a i∧Tch w w' fun k=>k=g) ∨
 (Next bs a .none∧e = .returned (.tuple #[strV [],.int .i64 bs.length,.int .i64 2])∧Scn w' g bs a (-1)∧Tch w w' fun k=>k=g) ∨
 (∃i j,Next bs a (.word i j)∧e = .returned (.tuple #[strV (sub bs i j),.int .i64 i,.int .i64 0])∧Scn w' g bs j (-1)∧Tch w w' fun k=>k=g)
set_option maxHeartbeats 4000000 in
theorem word_any (h:Scn w g bs a (-1))(ha:a≤bs.length)(hn:bs.length≤1000000) :
 Calls Tryz.prog 80 #[.pointer (some ⟨g,0,none⟩)] w fun e w'=>WordOf w g bs a e w':=by
 have hsk:=skip_any h ha hn;obtain⟨A,c,q0,q1,q2,hc,hat⟩:=h.heads;have H:=Hd h;obtain⟨n,hl⟩:∃n,bs.length=n:=⟨_,rfl⟩;have HL:=Hd hl;rw[hl]at q0 hc hat ha hn;have HAT:=Hd hat;clear h hl hat
 go_enter Tryz.func80,Tryz.ntmps80
 go_wp2_with fail;refine hsk.mono ?_;rintro e w1 ⟨i,rfl,hs,rfl⟩;have his:i≤n:=by have:=hs.len;rw[HL.out]at this;exact this
 have HS:=Hd hs;clear hsk hs;go_wp2_with fail
 go_loopw [6] (fun jv wr => ∃j:Nat,jv = .int .i64 j∧i≤j∧j≤n∧(∀q,i≤q→q<j→isIn (at_ bs q)=true)∧w=wr) (fun jv _=>n-(intOf jv).toNat)
 case atStart=>exact⟨i,rfl,Nat.le_refl _,his,fun q h1 h2=>by omega,rfl⟩
 case round =>
  obtain⟨j,rfl,h1,h2,hall,rfl⟩:=hrel;have HA:=Hd hall;clear hall;by_cases hlt:j<n
  ·obtain⟨r,rfl,hrg,hcell⟩:=HAT.out j hlt
   obtain⟨b,hb⟩:∃b,isIn (at_ bs j)=b:=⟨_,rfl⟩;obtain⟨b2,hb2⟩:∃b,isB (at_ bs j)=b:=⟨_,rfl⟩;have hin:=in_any (at_ bs j) w;have hbt:=between_any (at_ bs j) w;rw[hb]at hin;rw[hb2]at hbt;have HB:=Hd hb;have HB2:=Hd hb2;obtain⟨x,hx⟩:∃x,at_ bs j=x:=⟨_,rfl⟩;rw[hx]at hin hbt hcell;clear hb hb2 hx
   cases b with
   | true =>
     clear hbt HB2;go_wp2_with fail;refine hin.mono ?_;rintro e w1 ⟨rfl,rfl⟩;clear hin;go_wp2_with fail;go_roundw
     case rel =>
      refine⟨j+1,by go_num,by omega,by omega,fun q q1 q2=>?_,by first | rfl | trivial⟩;by_cases e:q=j
      ·rw[e];exact HB.out
      ·exact HA.out q q1 (by omega)
     case measure=>simp[intOf];omega
   | false =>
     have hI:Ins bs i j:=⟨h1,by rw[HL.out];exact h2,HA.out,fun _=>HB.out⟩;have HI:=Hd hI;clear hI
     cases b2 with
     | false =>
       obtain⟨_,hput,_,hfr⟩:=H.out.put;have hN:Hid (Next bs a (.bad j)):=⟨i,j,HS.out,HI.out,.inl ⟨⟨by rw[HL.out];exact hlt,HB2.out⟩,rfl⟩⟩;have HP:=Hd (hput j);have HT:=Hd (Tch.set_ w (S:=fun k=>k=g) (p:=⟨g,2,none⟩) (.int .i64 (j:Int)) rfl);clear hput;go_wp2_with fail;refine hin.mono ?_;rintro e w1 ⟨rfl,rfl⟩;clear hin;go_wp2_with fail;refine hbt.mono ?_;rintro e w1 ⟨rfl,rfl⟩;clear hbt;go_wp2_with fail
       go_ret3
       exact .inl ⟨j,hN.out,rfl,HP.out,HT.out⟩
     | true =>
       have hW:Hid (¬ Wrong bs j):=fun hw=>by have h0:=hw.2;have h1:=HB2.out;rw[h0]at h1;cases h1
       by_cases hij:i=j
       ·exfalso
        have h0:=HS.out.stop (by rw[HL.out];omega);have h1:=HB2.out;rw[← hij,h0]at h1
        cases h1
       ·have hlt2:i<j:=by omega
        have hN:Hid (Next bs a (.word i j)):=⟨i,j,HS.out,HI.out,.inr (.inr ⟨hW.out,hlt2,rfl⟩)⟩;obtain⟨hput,_,hfr,_⟩:=H.out.put;obtain⟨r',c',q0',hconv⟩:=H.out.conv (i:=i) (j:=j) hlt2 (by rw[HL.out];exact h2);have HP:=Hd (hput j);have HT:=Hd (Tch.set_ w (S:=fun k=>k=g) (p:=⟨g,1,none⟩) (.int .i64 (j:Int)) rfl);have hcv:=fun k=>hconv k _ (.inr HT.out)
        have hne:((i:Int)==(j:Int))=false:=by simp;omega
        rw[HL.out,q0]at q0';injection q0' with q0'
        injection q0' with e1 _ e2
        injection e1 with e1
        injection e1 with e1
        subst e1;subst e2;have z0:(0:Int)≤(i:Int):=Int.natCast_nonneg _;have z1:(i:Int)≤(j:Int):=by omega
        have z2:(j:Int)≤(c:Int):=by omega
        have z3:¬ c=i:=by omega
        clear hput hconv;go_wp2_with fail;refine hin.mono ?_;rintro e w1 ⟨rfl,rfl⟩;clear hin;go_wp2_with fail;refine hbt.mono ?_;rintro e w1 ⟨rfl,rfl⟩;clear hbt;go_wp2_with fail
        go_ret3
        exact .inr (.inr ⟨i,j,hN.out,rfl,HP.out,HT.out⟩)
  ·obtain rfl:n=j:=by omega
   have hI:Ins bs i n:=⟨h1,by rw[HL.out];exact h2,HA.out,fun h=>by rw[HL.out]at h;omega⟩;have HI:=Hd hI;have hW:Hid (¬ Wrong bs n):=fun hw=>by have:=hw.1;rw[HL.out]at this;omega
   clear hI;by_cases hij:i=n
   ·have hN:Hid (Next bs a .none):=⟨i,n,HS.out,HI.out,.inr (.inl ⟨hW.out,hij,rfl⟩)⟩
    have hne:((i:Int)==(n:Int))=true:=by simp;omega
    subst hij;go_wp2_with fail
    go_quiet (fail)
    go_wp2_with fail
    go_ret3
    refine .inr (.inl ⟨hN.out,?_,H.out.below (below_drewN (Below.refl _ _) _),Tch.of_below (below_drewN (Below.refl _ _) _) _⟩);rw[HL.out];rfl
   ·have hlt2:i<n:=by omega
    have hN:Hid (Next bs a (.word i n)):=⟨i,n,HS.out,HI.out,.inr (.inr ⟨hW.out,hlt2,rfl⟩)⟩;obtain⟨r,hA,_,_⟩:=HAT.out i hlt2;subst hA;obtain⟨hput,_,hfr,_⟩:=H.out.put;obtain⟨r',c',q0',hconv⟩:=H.out.conv (i:=i) (j:=n) hlt2 (by rw[HL.out];exact h2);have HP:=Hd (hput n);have HT:=Hd (Tch.set_ w (S:=fun k=>k=g) (p:=⟨g,1,none⟩) (.int .i64 (n:Int)) rfl);have hcv:=fun k=>hconv k _ (.inr HT.out)
    have hne:((i:Int)==(n:Int))=false:=by simp;omega
    rw[HL.out,q0]at q0';injection q0' with q0'
    injection q0' with e1 _ e2
    injection e1 with e1
    injection e1 with e1
    subst e1;subst e2;have z0:(0:Int)≤(i:Int):=Int.natCast_nonneg _;have z1:(i:Int)≤(n:Int):=by omega
    have z2:(n:Int)≤(c:Int):=by omega
    have z3:¬ c=i:=by omega
    clear hput hconv;go_wp2_with fail
    go_ret3
    exact .inr (.inr ⟨i,n,hN.out,rfl,HP.out,HT.out⟩)
end Go.Proofs.YtjpkkkphhaajgaaGreatDoor.scn
namespace Go.Proofs.YtjpkkkphhaajgaaGreatDoor.scn
open Go RowKit ChangeShapes WideShapes ChangeAt words
theorem dig_step {l:List UInt8}{j:Nat}(hj:j<l.length)(h:((l.take j).all isD)=true) :
 ((at_ l j<48∨57<at_ l j)→l.all isD=false)∧(48≤at_ l j→at_ l j≤57→dec (l.take (j+1))=10*dec (l.take j)+(at_ l j-48)∧((l.take (j+1)).all isD)=true):=by
 have hx:l[j]?=some (l.getD j 0):=by rw[List.getD_eq_getElem?_getD,List.getElem?_eq_getElem hj];rfl
 have e:l.take (j+1)=l.take j ++ [l.getD j 0]:=by rw[List.take_add_one,hx];rfl
 constructor
 ·intro hb
  cases hc:l.all isD with
  |false=>rfl
  | true =>
    have:=List.all_eq_true.1 hc _ (List.mem_of_getElem? hx);simp only[isD,Bool.and_eq_true,decide_eq_true_eq]at this;unfold at_ at hb;omega
 ·intro h1 h2
  rw[e,dec_snoc];refine⟨rfl,?_⟩;rw[List.all_append,h];simp only[List.all_cons,List.all_nil,Bool.and_true,Bool.true_and,isD,Bool.and_eq_true,decide_eq_true_eq];exact⟨h1,h2⟩
theorem readN_none {l:List UInt8}(h:l.all isD=false):readN l=none:=by unfold readN;rw[if_neg];simp[h]
theorem readN_some {l:List UInt8}{m:Nat}(h0:l ≠ [])(hm:m=min (dec l) farN)(h:l.all isD=true):readN l=some m:=by unfold readN;rw[if_pos ⟨h0,h⟩,hm]
theorem neg_none {b:UInt8}{r:List UInt8}(hb:b.toNat=45)(h:readN r=none):readW (b::r)=(0,4):=by simp[readW,hb,h]
theorem neg_some {b:UInt8}{r:List UInt8}{m:Nat}(hb:b.toNat=45)(h:readN r=some m):readW (b::r)=(-(m:Int),0):=by simp[readW,hb,h]
theorem pos_none {b:UInt8}{r:List UInt8}(hb:¬ b.toNat=45)(h:readN (b::r)=none):readW (b::r)=(0,4):=by simp[readW,hb,h]
theorem pos_some {b:UInt8}{r:List UInt8}{m:Nat}(hb:¬ b.toNat=45)(h:readN (b::r)=some m):readW (b::r)=((m:Int),0):=by simp[readW,hb,h]
theorem conv_bytes (l:List UInt8):∃ (F:World→Nat) (G:World→World),∀W,(convert 9 22 (strV l)).run Tryz.prog W = .ok (.slice (some ⟨W.heap.size,0,none⟩) l.length (F W)) (G W)∧Below W.heap.size W (G W)∧∀i,i<l.length→(G W).cell? ⟨W.heap.size,i,none⟩=some (.int .u8 (at_ l i:Nat)):=by
 have e:(⟨l.toArray⟩:ByteArray).size=l.length:=by simp[ByteArray.size]
 refine⟨fun W=>grownCap W l.length 0 5,fun W=>W.drew.alloc (.cells (bytesRow ⟨l.toArray⟩ (grownCap W l.length 0 5)) 5 ((bytesRow ⟨l.toArray⟩ (grownCap W l.length 0 5)).size,(bytesRow ⟨l.toArray⟩ (grownCap W l.length 0 5)).size+1)),fun W=>⟨?_,?_,?_⟩⟩
 ·have:=run_bytes_of_string (P:=Tryz.prog) W 9 22 5 ⟨l.toArray⟩ Tryz.underlying9 Tryz.underlying22 Tryz.underlying5
  rw[e]at this;exact this
 ·exact bto (Below.refl _ _).drew (bone W.drew _)
 ·intro i hi
  rw[show W.heap.size=W.drew.heap.size from rfl,World.cell?_alloc_mark];rw[bytesRow_at _ _ _ (by simpa using hi)];unfold at_;rw[List.getD_eq_getElem?_getD,List.getElem?_eq_getElem hi];simp
set_option maxHeartbeats 8000000 in
theorem read_any (l:List UInt8)(w:World)(hl:l.length≤1000000) :
 Calls Tryz.prog 133 #[strV l] w fun e w'=>e = .returned (.tuple #[.int .i64 (readW l).1,.int .i64 (readW l).2])∧Below w.heap.size w w':=by
 cases l with
 | nil =>
   go_enter Tryz.func133,Tryz.ntmps133
   go_wp2_with fail;go_ret2
   exact⟨rfl,Below.refl _ _⟩
 | cons b r =>
   rw[List.length_cons]at hl;have hx0:(({ data:=(b::r).toArray }:ByteArray)[0]'(by simp[ByteArray.size])).toNat=b.toNat:=rfl;by_cases hb:b.toNat=45
   ·have hx1:(({ data:=(b::r).toArray }:ByteArray)[0]'(by simp[ByteArray.size])).toNat=45:=hb
    cases r with
    | nil =>
      have hex:=extract_mk_tail b [];rw[List.length_nil]at hex;have hR:=Hd (neg_none (r := []) hb rfl);clear hx0
      go_enter Tryz.func133,Tryz.ntmps133
      go_wp2_with fail
      go_quiet (fail)
      go_wp2_with fail;go_ret2
      exact⟨by rw[hR.out];rfl,below_drewN (Below.refl _ _) _⟩
    | cons y r =>
      obtain⟨F,G,hFG⟩:=conv_bytes (y::r);have hcv:=fun W=>(hFG W).1
      obtain⟨n,hn⟩:∃n,(y::r).length=n:=⟨_,rfl⟩;have HN:=Hd hn;have hex:=extract_mk_tail b (y::r);rw[hn]at hFG hcv hex;rw[List.length_cons]at hn;rw[List.length_cons]at hl;clear hx0
      go_enter Tryz.func133,Tryz.ntmps133
      go_wp2_with fail
      go_quiet (fail)
      go_wp2_with fail
      go_loopw [5,23] (fun nv jv wr => ∃ (j m:Nat),jv = .int .i64 j∧nv = .int .i64 (m:Nat)∧j≤n∧m=min (dec ((y::r).take j)) farN∧(((y::r).take j).all isD)=true∧(∀i,i<n→wr.cell? ⟨w.heap.size,i,none⟩=some (.int .u8 (at_ (y::r) i:Nat)))∧Below w.heap.size w wr) (fun _ jv _=>n-(intOf jv).toNat)
      case atStart=>exact⟨0,0,rfl,rfl,Nat.zero_le _,by simp[dec,farN],rfl,(hFG _).2.2,(by first | exact (hFG _).2.1 | exact bto (below_drewN (Below.refl _ _) _) (hFG _).2.1)⟩
      case round =>
       obtain⟨j,m,rfl,rfl,hj,hm,hall,hcl,hB⟩:=hrel;have hmf:m≤farN:=by omega
       unfold farN at hmf;by_cases hlt:j<n
       ·have hcj:=hcl j hlt
        have HLI:=Hd (dig_step (l:=y::r) (by rw[HN.out];exact hlt) hall);have HM:=Hd hm;have HC:=Hd hcl;obtain⟨x,hx⟩:∃x,at_ (y::r) j=x:=⟨_,rfl⟩;have hx256:x<256:=by rw[← hx];exact UInt8.toNat_lt _
        rw[hx]at hcj;rw[Hid,hx]at HLI;have HL2:=Hd HLI;clear hm hall hcl hx HLI;by_cases x1:x<48
        ·have b1:decide (x<48)=true:=decide_eq_true x1
         have hres:=HL2.out.1 (by omega);have HR:=Hd (neg_none hb (readN_none hres));clear hres;go_wp2_with fail;go_ret2;exact⟨by rw[HR.out];first | rfl | (simp;done),hB⟩
        ·have b1:decide (x<48)=false:=decide_eq_false x1
         by_cases x2:57<x
         ·have b2:decide (57<x)=true:=decide_eq_true x2
          have hres:=HL2.out.1 (by omega);have HR:=Hd (neg_none hb (readN_none hres));clear hres;go_wp2_with fail;go_ret2;exact⟨by rw[HR.out];first | rfl | (simp;done),hB⟩
         ·have b2:decide (57<x)=false:=decide_eq_false x2
          obtain⟨d,hd⟩:∃d,x-48=d:=⟨_,rfl⟩;have hxd:(x:Int)-48=(d:Int):=by omega
          have hd9:d≤9:=by omega
          have w1:IntKind.u8.wrap (d:Int)=(d:Int):=by rw[IntKind.wrap_u8];omega
          have w2:IntKind.i64.wrap (d:Int)=(d:Int):=by rw[IntKind.wrap_i64];omega
          obtain⟨f,hf⟩:∃f,4611686018427387904-d=f:=⟨_,rfl⟩;have hfI:(4611686018427387904:Int)-(d:Int)=(f:Int):=by omega
          have w3:IntKind.i64.wrap (f:Int)=(f:Int):=by rw[IntKind.wrap_i64];omega
          obtain⟨q,hq⟩:∃q,f / 10=q:=⟨_,rfl⟩;have hqI:(f:Int) / 10=(q:Int):=by omega
          have hqT:(f:Int).tdiv 10=(q:Int):=by rw[Int.tdiv_eq_ediv_of_nonneg (by omega)];exact hqI
          have w4:IntKind.i64.wrap (q:Int)=(q:Int):=by rw[IntKind.wrap_i64];omega
          obtain⟨h1,h2⟩:=HL2.out.2 (by omega) (by omega);rw[hd]at h1;have hst:=far_step (dec ((y::r).take j)) d hd9;rw[← h1,← HM.out]at hst;have hq2:(farN-d) / 10=q:=by unfold farN;omega
          rw[hq2]at hst;have H2:=Hd h2;by_cases hqm:q<m
          ·rw[if_pos hqm]at hst
           have b3:decide ((q:Int)<(m:Int))=true:=decide_eq_true (by omega);have b3N:decide (q<m)=true:=decide_eq_true hqm;have HS:=Hd hst;clear h1 h2 hst hq2 hd hf hq;go_wp2_with fail;go_roundw
           case rel=>exact⟨j+1,4611686018427387904,by go_num,rfl,by omega,HS.out.symm,H2.out,HC.out,hB⟩
           case measure=>simp[intOf];omega
          ·rw[if_neg hqm]at hst
           have b3:decide ((q:Int)<(m:Int))=false:=decide_eq_false (by omega);have b3N:decide (q<m)=false:=decide_eq_false hqm;obtain⟨t,ht⟩:∃t,10*m=t:=⟨_,rfl⟩;have htI:10*(m:Int)=(t:Int):=by omega
           have w5:IntKind.i64.wrap (t:Int)=(t:Int):=by rw[IntKind.wrap_i64];omega
           obtain⟨u,hu⟩:∃u,t+d=u:=⟨_,rfl⟩;have huI:(t:Int)+(d:Int)=(u:Int):=by omega
           have w6:IntKind.i64.wrap (u:Int)=(u:Int):=by rw[IntKind.wrap_i64];omega
           rw[ht,hu]at hst;have HS:=Hd hst;clear h1 h2 hst hq2 hd hf hq ht hu;go_wp2_with fail;go_roundw
           case rel=>exact⟨j+1,u,by go_num,rfl,by omega,HS.out.symm,H2.out,HC.out,hB⟩
           case measure=>simp[intOf];omega
       ·obtain rfl:n=j:=by omega
        rw[List.take_of_length_le (by rw[HN.out];exact Nat.le_refl _)]at hm hall;have HR:=Hd (neg_some hb (readN_some (by simp) hm hall));have w7:IntKind.i64.wrap (m:Int)=(m:Int):=by rw[IntKind.wrap_i64];omega
        have w8:IntKind.i64.wrap (-(m:Int)) = -(m:Int):=by rw[IntKind.wrap_i64];omega
        clear hm hall hcl;go_wp2_with fail;go_ret2;exact⟨by rw[HR.out];first | rfl | (simp;done),hB⟩
   ·have hx1:(b.toNat==45)=false:=by simpa using hb
    have hx2:((b.toNat:Int)==45)=false:=by simp;omega
    obtain⟨F,G,hFG⟩:=conv_bytes (b::r);have hcv:=fun W=>(hFG W).1
    obtain⟨n,hn⟩:∃n,(b::r).length=n:=⟨_,rfl⟩;have HN:=Hd hn;rw[hn]at hFG hcv;rw[List.length_cons]at hn
    go_enter Tryz.func133,Tryz.ntmps133
    go_wp2_with fail
    go_loopw [5,23] (fun nv jv wr => ∃ (j m:Nat),jv = .int .i64 j∧nv = .int .i64 (m:Nat)∧j≤n∧m=min (dec ((b::r).take j)) farN∧(((b::r).take j).all isD)=true∧(∀i,i<n→wr.cell? ⟨w.heap.size,i,none⟩=some (.int .u8 (at_ (b::r) i:Nat)))∧Below w.heap.size w wr) (fun _ jv _=>n-(intOf jv).toNat)
    case atStart=>exact⟨0,0,rfl,rfl,Nat.zero_le _,by simp[dec,farN],rfl,(hFG _).2.2,(by first | exact (hFG _).2.1 | exact bto (below_drewN (Below.refl _ _) _) (hFG _).2.1)⟩
    case round =>
     obtain⟨j,m,rfl,rfl,hj,hm,hall,hcl,hB⟩:=hrel;have hmf:m≤farN:=by omega
     unfold farN at hmf;by_cases hlt:j<n
     ·have hcj:=hcl j hlt
      have HLI:=Hd (dig_step (l:=b::r) (by rw[HN.out];exact hlt) hall);have HM:=Hd hm;have HC:=Hd hcl;obtain⟨x,hx⟩:∃x,at_ (b::r) j=x:=⟨_,rfl⟩;have hx256:x<256:=by rw[← hx];exact UInt8.toNat_lt _
      rw[hx]at hcj;rw[Hid,hx]at HLI;have HL2:=Hd HLI;clear hm hall hcl hx HLI;by_cases x1:x<48
      ·have b1:decide (x<48)=true:=decide_eq_true x1
       have hres:=HL2.out.1 (by omega);have HR:=Hd (pos_none hb (readN_none hres));clear hres;go_wp2_with fail;go_ret2;exact⟨by rw[HR.out];first | rfl | (simp;done),hB⟩
      ·have b1:decide (x<48)=false:=decide_eq_false x1
       by_cases x2:57<x
       ·have b2:decide (57<x)=true:=decide_eq_true x2
        have hres:=HL2.out.1 (by omega);have HR:=Hd (pos_none hb (readN_none hres));clear hres;go_wp2_with fail;go_ret2;exact⟨by rw[HR.out];first | rfl | (simp;done),hB⟩
       ·have b2:decide (57<x)=false:=decide_eq_false x2
        obtain⟨d,hd⟩:∃d,x-48=d:=⟨_,rfl⟩;have hxd:(x:Int)-48=(d:Int):=by omega
        have hd9:d≤9:=by omega
        have w1:IntKind.u8.wrap (d:Int)=(d:Int):=by rw[IntKind.wrap_u8];omega
        have w2:IntKind.i64.wrap (d:Int)=(d:Int):=by rw[IntKind.wrap_i64];omega
        obtain⟨f,hf⟩:∃f,4611686018427387904-d=f:=⟨_,rfl⟩;have hfI:(4611686018427387904:Int)-(d:Int)=(f:Int):=by omega
        have w3:IntKind.i64.wrap (f:Int)=(f:Int):=by rw[IntKind.wrap_i64];omega
        obtain⟨q,hq⟩:∃q,f / 10=q:=⟨_,rfl⟩;have hqI:(f:Int) / 10=(q:Int):=by omega
        have hqT:(f:Int).tdiv 10=(q:Int):=by rw[Int.tdiv_eq_ediv_of_nonneg (by omega)];exact hqI
        have w4:IntKind.i64.wrap (q:Int)=(q:Int):=by rw[IntKind.wrap_i64];omega
        obtain⟨h1,h2⟩:=HL2.out.2 (by omega) (by omega);rw[hd]at h1;have hst:=far_step (dec ((b::r).take j)) d hd9;rw[← h1,← HM.out]at hst;have hq2:(farN-d) / 10=q:=by unfold farN;omega
        rw[hq2]at hst;have H2:=Hd h2;by_cases hqm:q<m
        ·rw[if_pos hqm]at hst
         have b3:decide ((q:Int)<(m:Int))=true:=decide_eq_true (by omega);have b3N:decide (q<m)=true:=decide_eq_true hqm;have HS:=Hd hst;clear h1 h2 hst hq2 hd hf hq;go_wp2_with fail;go_roundw
         case rel=>exact⟨j+1,4611686018427387904,by go_num,rfl,by omega,HS.out.symm,H2.out,HC.out,hB⟩
         case measure=>simp[intOf];omega
        ·rw[if_neg hqm]at hst
         have b3:decide ((q:Int)<(m:Int))=false:=decide_eq_false (by omega);have b3N:decide (q<m)=false:=decide_eq_false hqm;obtain⟨t,ht⟩:∃t,10*m=t:=⟨_,rfl⟩;have htI:10*(m:Int)=(t:Int):=by omega
         have w5:IntKind.i64.wrap (t:Int)=(t:Int):=by rw[IntKind.wrap_i64];omega
         obtain⟨u,hu⟩:∃u,t+d=u:=⟨_,rfl⟩;have huI:(t:Int)+(d:Int)=(u:Int):=by omega
         have w6:IntKind.i64.wrap (u:Int)=(u:Int):=by rw[IntKind.wrap_i64];omega
         rw[ht,hu]at hst;have HS:=Hd hst;clear h1 h2 hst hq2 hd hf hq ht hu;go_wp2_with fail;go_roundw
         case rel=>exact⟨j+1,u,by go_num,rfl,by omega,HS.out.symm,H2.out,HC.out,hB⟩
         case measure=>simp[intOf];omega
     ·obtain rfl:n=j:=by omega
      rw[List.take_of_length_le (by rw[HN.out];exact Nat.le_refl _)]at hm hall;have HR:=Hd (pos_some hb (readN_some (by simp) hm hall));have w7:IntKind.i64.wrap (m:Int)=(m:Int):=by rw[IntKind.wrap_i64];omega
      have w8:IntKind.i64.wrap (-(m:Int)) = -(m:Int):=by rw[IntKind.wrap_i64];omega
      clear hm hall hcl;go_wp2_with fail;go_ret2;exact⟨by rw[HR.out];first | rfl | (simp;done),hB⟩
theorem str_at {l:List UInt8}{j:Nat}(h:j<l.length):((⟨l.toArray⟩:ByteArray)[j]'(by simpa [ByteArray.size] using h)).toNat=at_ l j:=by
 unfold at_;rw[List.getD_eq_getElem?_getD,List.getElem?_eq_getElem h];rfl
set_option maxHeartbeats 8000000 in
theorem read_ref (l:List UInt8)(w:World)(hl:l.length≤1000000) :
 Calls Tryz.prog 139 #[strV l] w fun e w'=>e = .returned (.tuple #[.int .i64 (readW l).1,.int .i64 (readW l).2])∧w=w':=by
 cases l with
 | nil =>
   go_enter Tryz.func139,Tryz.ntmps139
   go_wp2_with fail;go_ret2
   exact⟨rfl,rfl⟩
 | cons b r =>
   rw[List.length_cons]at hl;have hx0:(({ data:=(b::r).toArray }:ByteArray)[0]'(by simp[ByteArray.size])).toNat=b.toNat:=rfl;by_cases hb:b.toNat=45
   ·have hx1:(({ data:=(b::r).toArray }:ByteArray)[0]'(by simp[ByteArray.size])).toNat=45:=hb
    cases r with
    | nil =>
      have hex:=extract_mk_tail b [];rw[List.length_nil]at hex;have hR:=Hd (neg_none (r := []) hb rfl);clear hx0
      go_enter Tryz.func139,Tryz.ntmps139
      go_wp2_with fail;go_ret2
      exact⟨by rw[hR.out];rfl,rfl⟩
    | cons y r =>
      obtain⟨n,hn⟩:∃n,(y::r).length=n:=⟨_,rfl⟩;have HN:=Hd hn;have hex:=extract_mk_tail b (y::r);rw[hn]at hex;rw[List.length_cons]at hn;rw[List.length_cons]at hl;have hn0:((n:Int)==0)=false:=by simp;omega
      clear hx0
      go_enter Tryz.func139,Tryz.ntmps139
      go_wp2_with fail
      go_loopw [5,6,7] (fun nv fv jv wr => ∃ (j m:Nat) (fr:Bool),jv = .int .i64 j∧nv = .int .u64 (m:Nat)∧fv = .bool fr∧j≤n∧m≤4611686018427387909∧((fr=false∧m=dec ((y::r).take j))∨(fr=true∧farN<dec ((y::r).take j)))∧(((y::r).take j).all isD)=true∧w=wr) (fun _ _ jv _=>n-(intOf jv).toNat)
      case atStart=>exact⟨0,0,false,rfl,rfl,rfl,Nat.zero_le _,by omega,.inl ⟨rfl,by simp[dec]⟩,rfl,rfl⟩
      case round =>
       obtain⟨j,m,fr,rfl,rfl,rfl,hj,hm9,hm,hall,rfl⟩:=hrel;by_cases hlt:j<n
       ·have hxj:=str_at (l:=y::r) (j:=j) (by rw[HN.out];exact hlt)
        have HLI:=Hd (dig_step (l:=y::r) (by rw[HN.out];exact hlt) hall);have HM:=Hd hm;obtain⟨x,hx⟩:∃x,at_ (y::r) j=x:=⟨_,rfl⟩;have hx256:x<256:=by rw[← hx];exact UInt8.toNat_lt _
        rw[hx]at hxj;rw[Hid,hx]at HLI;have HL2:=Hd HLI;clear hm hall hx HLI;by_cases x1:x<48
        ·have b1:decide (x<48)=true:=decide_eq_true x1
         have hres:=HL2.out.1 (by omega);have HR:=Hd (neg_none hb (readN_none hres));clear hres;go_wp2_with fail;go_ret2;exact⟨by rw[HR.out];rfl,by first | rfl | trivial⟩
        ·have b1:decide (x<48)=false:=decide_eq_false x1
         by_cases x2:57<x
         ·have b2:decide (57<x)=true:=decide_eq_true x2
          have hres:=HL2.out.1 (by omega);have HR:=Hd (neg_none hb (readN_none hres));clear hres;go_wp2_with fail;go_ret2;exact⟨by rw[HR.out];rfl,by first | rfl | trivial⟩
         ·have b2:decide (57<x)=false:=decide_eq_false x2
          obtain⟨d,hd⟩:∃d,x-48=d:=⟨_,rfl⟩;have hxd:(x:Int)-48=(d:Int):=by omega
          have hd9:d≤9:=by omega
          have w1:IntKind.u8.wrap (d:Int)=(d:Int):=by rw[IntKind.wrap_u8];omega
          have w2:IntKind.u64.wrap (d:Int)=(d:Int):=by rw[IntKind.wrap_u64];omega
          obtain⟨h1,h2⟩:=HL2.out.2 (by omega) (by omega);rw[hd]at h1;have H2:=Hd h2;by_cases hq:461168601842738790<m
          ·have b3:decide ((461168601842738790:Int)<(m:Int))=true:=decide_eq_true (by omega)
           have b3N:decide (461168601842738790<m)=true:=decide_eq_true hq
           have HS:Hid (farN<dec ((y::r).take (j+1))):=by
            rw[Hid,h1];rcases HM.out with⟨_,h⟩ | ⟨_,h⟩
            ·rw[← h];unfold farN;omega
            ·unfold farN at h ⊢;omega
           clear h1 h2 hd;go_wp2_with fail;go_roundw
           case rel=>exact⟨j+1,m,true,by go_num,rfl,rfl,by omega,hm9,.inr ⟨rfl,HS.out⟩,H2.out,by first | rfl | trivial⟩
           case measure=>simp[intOf];omega
          ·have b3:decide ((461168601842738790:Int)<(m:Int))=false:=decide_eq_false (by omega)
           have b3N:decide (461168601842738790<m)=false:=decide_eq_false hq
           cases fr with
           | true =>
             have HS:Hid (farN<dec ((y::r).take (j+1))):=by
              rw[Hid,h1];rcases HM.out with⟨e,_⟩ | ⟨_,h⟩
              ·cases e
              ·unfold farN at h ⊢;omega
             clear h1 h2 hd;go_wp2_with fail;go_roundw
             case rel=>exact⟨j+1,m,true,by go_num,rfl,rfl,by omega,hm9,.inr ⟨rfl,HS.out⟩,H2.out,by first | rfl | trivial⟩
             case measure=>simp[intOf];omega
           | false =>
             obtain⟨t,ht⟩:∃t,10*m=t:=⟨_,rfl⟩;have htI:10*(m:Int)=(t:Int):=by omega
             have w5:IntKind.u64.wrap (t:Int)=(t:Int):=by rw[IntKind.wrap_u64];omega
             obtain⟨u,hu⟩:∃u,t+d=u:=⟨_,rfl⟩;have huI:(t:Int)+(d:Int)=(u:Int):=by omega
             have w6:IntKind.u64.wrap (u:Int)=(u:Int):=by rw[IntKind.wrap_u64];omega
             have HS:Hid (u=dec ((y::r).take (j+1))):=by
              rw[Hid,h1];rcases HM.out with⟨_,h⟩ | ⟨e,_⟩
              ·omega
              ·cases e
             have hu9:u≤4611686018427387909:=by omega
             clear h1 h2 hd ht hu;go_wp2_with fail;go_roundw
             case rel=>exact⟨j+1,u,false,by go_num,rfl,rfl,by omega,hu9,.inl ⟨rfl,HS.out⟩,H2.out,by first | rfl | trivial⟩
             case measure=>simp[intOf];omega
       ·obtain rfl:n=j:=by omega
        rw[List.take_of_length_le (by rw[HN.out];exact Nat.le_refl _)]at hm hall;have HALL:=Hd hall;have HM:=Hd hm;clear hall hm
        cases fr with
        | true =>
          have hm:4611686018427387904=min (dec (y::r)) farN:=by
           rcases HM.out with⟨e,_⟩ | ⟨_,h⟩
           ·cases e
           ·unfold farN at h ⊢;omega
          have HR:=Hd (neg_some hb (readN_some (by simp) hm HALL.out));have w7:IntKind.i64.wrap 4611686018427387904=4611686018427387904:=by decide
          clear hm;go_wp2_with fail;go_ret2
          exact⟨by rw[HR.out];first | rfl | (simp;done),by first | rfl | trivial⟩
        | false =>
          have hmD:m=dec (y::r):=by
           rcases HM.out with⟨_,h⟩ | ⟨e,_⟩
           ·exact h
           ·cases e
          by_cases hq:4611686018427387904<m
          ·have hm:4611686018427387904=min (dec (y::r)) farN:=by unfold farN;omega
           have HR:=Hd (neg_some hb (readN_some (by simp) hm HALL.out));have b3:decide ((4611686018427387904:Int)<(m:Int))=true:=decide_eq_true (by omega);have b3N:decide (4611686018427387904<m)=true:=decide_eq_true hq;have w7:IntKind.i64.wrap 4611686018427387904=4611686018427387904:=by decide
           clear hm hmD;go_wp2_with fail;go_ret2;exact⟨by rw[HR.out];first | rfl | (simp;done),by first | rfl | trivial⟩
          ·have hm:m=min (dec (y::r)) farN:=by unfold farN;omega
           have HR:=Hd (neg_some hb (readN_some (by simp) hm HALL.out));have b3:decide ((4611686018427387904:Int)<(m:Int))=false:=decide_eq_false (by omega);have b3N:decide (4611686018427387904<m)=false:=decide_eq_false hq;have w7:IntKind.i64.wrap (m:Int)=(m:Int):=by rw[IntKind.wrap_i64];omega
           have w8:IntKind.i64.wrap (-(m:Int)) = -(m:Int):=by rw[IntKind.wrap_i64];omega
           clear hm hmD;go_wp2_with fail;go_ret2;exact⟨by rw[HR.out];first | rfl | (simp;done),by first | rfl | trivial⟩
   ·have hx1:(b.toNat==45)=false:=by simpa using hb
    have hx2:((b.toNat:Int)==45)=false:=by simp;omega
    obtain⟨n,hn⟩:∃n,(b::r).length=n:=⟨_,rfl⟩;have HN:=Hd hn;rw[List.length_cons]at hn;have hn0:((n:Int)==0)=false:=by simp;omega
    go_enter Tryz.func139,Tryz.ntmps139
    go_wp2_with fail
    go_loopw [5,6,7] (fun nv fv jv wr => ∃ (j m:Nat) (fr:Bool),jv = .int .i64 j∧nv = .int .u64 (m:Nat)∧fv = .bool fr∧j≤n∧m≤4611686018427387909∧((fr=false∧m=dec ((b::r).take j))∨(fr=true∧farN<dec ((b::r).take j)))∧(((b::r).take j).all isD)=true∧w=wr) (fun _ _ jv _=>n-(intOf jv).toNat)
    case atStart=>exact⟨0,0,false,rfl,rfl,rfl,Nat.zero_le _,by omega,.inl ⟨rfl,by simp[dec]⟩,rfl,rfl⟩
    case round =>
     obtain⟨j,m,fr,rfl,rfl,rfl,hj,hm9,hm,hall,rfl⟩:=hrel;by_cases hlt:j<n
     ·have hxj:=str_at (l:=b::r) (j:=j) (by rw[HN.out];exact hlt)
      have HLI:=Hd (dig_step (l:=b::r) (by rw[HN.out];exact hlt) hall);have HM:=Hd hm;obtain⟨x,hx⟩:∃x,at_ (b::r) j=x:=⟨_,rfl⟩;have hx256:x<256:=by rw[← hx];exact UInt8.toNat_lt _
      rw[hx]at hxj;rw[Hid,hx]at HLI;have HL2:=Hd HLI;clear hm hall hx HLI;by_cases x1:x<48
      ·have b1:decide (x<48)=true:=decide_eq_true x1
       have hres:=HL2.out.1 (by omega);have HR:=Hd (pos_none hb (readN_none hres));clear hres;go_wp2_with fail;go_ret2;exact⟨by rw[HR.out];rfl,by first | rfl | trivial⟩
      ·have b1:decide (x<48)=false:=decide_eq_false x1
       by_cases x2:57<x
       ·have b2:decide (57<x)=true:=decide_eq_true x2
        have hres:=HL2.out.1 (by omega);have HR:=Hd (pos_none hb (readN_none hres));clear hres;go_wp2_with fail;go_ret2;exact⟨by rw[HR.out];rfl,by first | rfl | trivial⟩
       ·have b2:decide (57<x)=false:=decide_eq_false x2
        obtain⟨d,hd⟩:∃d,x-48=d:=⟨_,rfl⟩;have hxd:(x:Int)-48=(d:Int):=by omega
        have hd9:d≤9:=by omega
        have w1:IntKind.u8.wrap (d:Int)=(d:Int):=by rw[IntKind.wrap_u8];omega
        have w2:IntKind.u64.wrap (d:Int)=(d:Int):=by rw[IntKind.wrap_u64];omega
        obtain⟨h1,h2⟩:=HL2.out.2 (by omega) (by omega);rw[hd]at h1;have H2:=Hd h2;by_cases hq:461168601842738790<m
        ·have b3:decide ((461168601842738790:Int)<(m:Int))=true:=decide_eq_true (by omega)
         have b3N:decide (461168601842738790<m)=true:=decide_eq_true hq
         have HS:Hid (farN<dec ((b::r).take (j+1))):=by
          rw[Hid,h1];rcases HM.out with⟨_,h⟩ | ⟨_,h⟩
          ·rw[← h];unfold farN;omega
          ·unfold farN at h ⊢;omega
         clear h1 h2 hd;go_wp2_with fail;go_roundw
         case rel=>exact⟨j+1,m,true,by go_num,rfl,rfl,by omega,hm9,.inr ⟨rfl,HS.out⟩,H2.out,by first | rfl | trivial⟩
         case measure=>simp[intOf];omega
        ·have b3:decide ((461168601842738790:Int)<(m:Int))=false:=decide_eq_false (by omega)
         have b3N:decide (461168601842738790<m)=false:=decide_eq_false hq
         cases fr with
         | true =>
           have HS:Hid (farN<dec ((b::r).take (j+1))):=by
            rw[Hid,h1];rcases HM.out with⟨e,_⟩ | ⟨_,h⟩
            ·cases e
            ·unfold farN at h ⊢;omega
           clear h1 h2 hd;go_wp2_with fail;go_roundw
           case rel=>exact⟨j+1,m,true,by go_num,rfl,rfl,by omega,hm9,.inr ⟨rfl,HS.out⟩,H2.out,by first | rfl | trivial⟩
           case measure=>simp[intOf];omega
         | false =>
           obtain⟨t,ht⟩:∃t,10*m=t:=⟨_,rfl⟩;have htI:10*(m:Int)=(t:Int):=by omega
           have w5:IntKind.u64.wrap (t:Int)=(t:Int):=by rw[IntKind.wrap_u64];omega
           obtain⟨u,hu⟩:∃u,t+d=u:=⟨_,rfl⟩;have huI:(t:Int)+(d:Int)=(u:Int):=by omega
           have w6:IntKind.u64.wrap (u:Int)=(u:Int):=by rw[IntKind.wrap_u64];omega
           have HS:Hid (u=dec ((b::r).take (j+1))):=by
            rw[Hid,h1];rcases HM.out with⟨_,h⟩ | ⟨e,_⟩
            ·omega
            ·cases e
           have hu9:u≤4611686018427387909:=by omega
           clear h1 h2 hd ht hu;go_wp2_with fail;go_roundw
           case rel=>exact⟨j+1,u,false,by go_num,rfl,rfl,by omega,hu9,.inl ⟨rfl,HS.out⟩,H2.out,by first | rfl | trivial⟩
           case measure=>simp[intOf];omega
     ·obtain rfl:n=j:=by omega
      rw[List.take_of_length_le (by rw[HN.out];exact Nat.le_refl _)]at hm hall;have HALL:=Hd hall;have HM:=Hd hm;clear hall hm
      cases fr with
      | true =>
        have hm:4611686018427387904=min (dec (b::r)) farN:=by
         rcases HM.out with⟨e,_⟩ | ⟨_,h⟩
         ·cases e
         ·unfold farN at h ⊢;omega
        have HR:=Hd (pos_some hb (readN_some (by simp) hm HALL.out));have w7:IntKind.i64.wrap 4611686018427387904=4611686018427387904:=by decide
        clear hm;go_wp2_with fail;go_ret2
        exact⟨by rw[HR.out];first | rfl | (simp;done),by first | rfl | trivial⟩
      | false =>
        have hmD:m=dec (b::r):=by
         rcases HM.out with⟨_,h⟩ | ⟨e,_⟩
         ·exact h
         ·cases e
        by_cases hq:4611686018427387904<m
        ·have hm:4611686018427387904=min (dec (b::r)) farN:=by unfold farN;omega
         have HR:=Hd (pos_some hb (readN_some (by simp) hm HALL.out));have b3:decide ((4611686018427387904:Int)<(m:Int))=true:=decide_eq_true (by omega);have b3N:decide (4611686018427387904<m)=true:=decide_eq_true hq;have w7:IntKind.i64.wrap 4611686018427387904=4611686018427387904:=by decide
         clear hm hmD;go_wp2_with fail;go_ret2;exact⟨by rw[HR.out];first | rfl | (simp;done),by first | rfl | trivial⟩
        ·have hm:m=min (dec (b::r)) farN:=by unfold farN;omega
         have HR:=Hd (pos_some hb (readN_some (by simp) hm HALL.out));have b3:decide ((4611686018427387904:Int)<(m:Int))=false:=decide_eq_false (by omega);have b3N:decide (4611686018427387904<m)=false:=decide_eq_false hq;have w7:IntKind.i64.wrap (m:Int)=(m:Int):=by rw[IntKind.wrap_i64];omega
         have w8:IntKind.i64.wrap (-(m:Int)) = -(m:Int):=by rw[IntKind.wrap_i64];omega
         clear hm hmD;go_wp2_with fail;go_ret2;exact⟨by rw[HR.out];first | rfl | (simp;done),by first | rfl | trivial⟩
variable {w:World} {g:Nat} {bs:List UInt8} {a:Nat} {bad:Int}
end Go.Proofs.YtjpkkkphhaajgaaGreatDoor.scn
namespace Go.Proofs.YtjpkkkphhaajgaaGreatDoor.wcp
open Go RowKit ChangeShapes WideShapes ChangeAt words scn
def RdB (w:World)(gr gs:Nat)(bad big badAt bigAt told:Int)(sv:Value):Prop :=
 Blk w gr 146 #[.pointer (some ⟨gs,0,none⟩),.int .i64 bad,.int .i64 big,.int .i64 badAt,.int .i64 bigAt,.int .i64 told,sv]
variable {w:World} {gr gs:Nat} {bad big badAt bigAt told:Int} {sv:Value}
theorem RdB.cells (h:RdB w gr gs bad big badAt bigAt told sv):w.cell? ⟨gr,0,none⟩=some (.pointer (some ⟨gs,0,none⟩))∧w.cell? ⟨gr,1,none⟩=some (.int .i64 bad)∧w.cell? ⟨gr,2,none⟩=some (.int .i64 big)∧w.cell? ⟨gr,3,none⟩=some (.int .i64 badAt) ∧
 w.cell? ⟨gr,4,none⟩=some (.int .i64 bigAt)∧w.cell? ⟨gr,5,none⟩=some (.int .i64 told)∧w.cell? ⟨gr,6,none⟩=some sv∧∀i,w.frozen? ⟨gr,i,none⟩=false :=
 ⟨(Blk.cell h 0).trans rfl,(Blk.cell h 1).trans rfl,(Blk.cell h 2).trans rfl,(Blk.cell h 3).trans rfl,(Blk.cell h 4).trans rfl,(Blk.cell h 5).trans rfl,(Blk.cell h 6).trans rfl,fun i=>Blk.frozen h i⟩
theorem tch2 (w:World)(g i j:Nat)(u v:Value):Tch w ((w.setCell ⟨g,i,none⟩ u).setCell ⟨g,j,none⟩ v) (fun k=>k=g) :=
 Tch.put (S:=fun k=>k=g) (Tch.put (S:=fun k=>k=g) (Tch.refl w _) (p:=⟨g,i,none⟩) u rfl) (p:=⟨g,j,none⟩) v rfl
theorem ok_any (h:RdB w gr gs bad big badAt bigAt told sv):Calls Tryz.prog 78 #[.pointer (some ⟨gr,0,none⟩)] w fun e w'=>e = .returned (.bool (decide (bad=0)))∧w=w':=by
 obtain⟨c0,c1,c2,c3,c4,c5,c6,cf⟩:=h.cells;have hb:(bad==0)=decide (bad=0):=by by_cases h:bad=0<;>simp[h]
 go_enter Tryz.func78,Tryz.ntmps78
 go_wp2
 go_ret;exact⟨ret_bool hb,rfl⟩
theorem wrong_any (h:RdB w gr gs bad big badAt bigAt told sv)(er x:Int):Calls Tryz.prog 81 #[.pointer (some ⟨gr,0,none⟩),.int .i64 er,.int .i64 x] w fun e w' =>
 (∃v,e = .returned v)∧((bad=0∧RdB w' gr gs er big x bigAt told sv)∨(bad≠0∧RdB w' gr gs bad big badAt bigAt told sv))∧Tch w w' fun k=>k=gr:=by
 obtain⟨c0,c1,c2,c3,c4,c5,c6,cf⟩:=h.cells;have f1:=cf 1;have f3:=cf 3;by_cases hb:bad=0
 ·subst hb
  have h2:=(h.set_ 1 (.int .i64 er)).set_ 3 (.int .i64 x);have H2:Hid (RdB _ gr gs er big x bigAt told sv):=h2;clear h2
  go_enter Tryz.func81,Tryz.ntmps81
  go_wp2
  go_end0
  exact⟨⟨_,rfl⟩,.inl ⟨by simp,H2.out⟩,tch2 _ _ _ _ _ _⟩
 ·have hbf:(bad==0)=false:=by simp[hb]
  have HB:=Hd hb;clear hb
  go_enter Tryz.func81,Tryz.ntmps81
  go_wp2
  go_end0
  exact⟨⟨_,rfl⟩,.inr ⟨HB.out,h⟩,Tch.refl _ _⟩
theorem large_any (h:RdB w gr gs bad big badAt bigAt told sv)(is:Bool)(x:Int):Calls Tryz.prog 76 #[.pointer (some ⟨gr,0,none⟩),.bool is,.int .i64 x] w fun e w' =>
 (∃v,e = .returned v)∧((is=true∧big=0∧bad=0∧RdB w' gr gs bad 5 badAt x told sv)∨(¬ (is=true∧big=0∧bad=0)∧RdB w' gr gs bad big badAt bigAt told sv))∧Tch w w' fun k=>k=gr:=by
 obtain⟨c0,c1,c2,c3,c4,c5,c6,cf⟩:=h.cells;have f2:=cf 2;have f4:=cf 4
 cases is with
 | false =>
   go_enter Tryz.func76,Tryz.ntmps76
   go_wp2
   go_end0
   exact⟨⟨_,rfl⟩,.inr ⟨by simp,h⟩,Tch.refl _ _⟩
 | true =>
   by_cases hg:big=0
   ·subst hg
    by_cases hb:bad=0
    ·subst hb
     have H2:Hid (RdB _ gr gs 0 5 badAt x told sv):=(h.set_ 2 (.int .i64 5)).set_ 4 (.int .i64 x)
     go_enter Tryz.func76,Tryz.ntmps76
     go_wp2
     go_end0
     exact⟨⟨_,rfl⟩,.inl ⟨by simp,by simp,by simp,H2.out⟩,tch2 _ _ _ _ _ _⟩
    ·have hbf:(bad==0)=false:=by simp[hb]
     have HB:=Hd hb;clear hb
     go_enter Tryz.func76,Tryz.ntmps76
     go_wp2
     go_end0
     exact⟨⟨_,rfl⟩,.inr ⟨fun h=>HB.out h.2.2,h⟩,Tch.refl _ _⟩
   ·have hgf:(big==0)=false:=by simp[hg]
    have HG:=Hd hg;clear hg
    go_enter Tryz.func76,Tryz.ntmps76
    go_wp2
    go_end0
    exact⟨⟨_,rfl⟩,.inr ⟨fun h=>HG.out h.2.1,h⟩,Tch.refl _ _⟩
end Go.Proofs.YtjpkkkphhaajgaaGreatDoor.wcp
namespace Go.Proofs.YtjpkkkphhaajgaaGreatDoor.wcp
open Go RowKit ChangeShapes WideShapes ChangeAt words scn
def Lf (bs:List UInt8)(a:Nat)(r:List Wd)(wb:Int):Prop:=a≤bs.length∧∃z,Chain bs a r z∧((wb = -1∧scn.Next bs z .none)∨∃b:Nat,wb=b∧scn.Next bs z (.bad b))
def enOf (bs:List UInt8)(wb:Int):Int:=if wb = -1 then bs.length else wb
def eeOf (wb:Int):Int:=if wb = -1 then 4 else 11
def Rok (w:World)(gr gs:Nat)(bs:List UInt8)(wb:Int)(s:Ps)(sv:Value):Prop :=
 ∃ (a:Nat) (big badAt bigAt:Int),RdB w gr gs 0 big badAt bigAt s.told sv∧Scn w gs bs a (-1)∧Lf bs a s.l wb∧((s.big=none∧big=0)∨∃x,s.big=some x∧big=5∧bigAt=x)
def Rbad (w:World)(gr gs:Nat)(e x:Int)(sv:Value):Prop := ∃ (big bigAt told:Int),RdB w gr gs e big x bigAt told sv∧e≠0
variable {w:World} {gr gs:Nat} {bs:List UInt8} {wb:Int} {s:Ps} {sv:Value}
def WordR (w:World)(gr gs:Nat)(bs:List UInt8)(wb:Int)(s:Ps)(sv:Value)(e:Ending)(w':World):Prop :=
 ∃ (v:List UInt8) (x:Int),e = .returned (.tuple #[strV v,.int .i64 x])∧v.length≤bs.length∧Tch w w' (fun k=>k=gr∨k=gs) ∧
  match pword (enOf bs wb) (eeOf wb) s with
  | .ok wd s'=>v=wd.1∧x=wd.2∧Rok w' gr gs bs wb s' sv
  | .bad er at_=>Rbad w' gr gs er at_ sv
theorem lf_none {a z:Nat}{l:List Wd}(hx:scn.Next bs a .none)(hch:Chain bs a l z)(hz:(wb = -1∧scn.Next bs z .none)∨∃b:Nat,wb=b∧scn.Next bs z (.bad b)):l = []∧wb = -1:=by
 cases hch with
 | nil =>
   rcases hz with⟨h,_⟩ | ⟨b,_,h⟩
   ·exact⟨rfl,h⟩
   ·exact Nx.noConfusion (hx.uniq h)
 |cons h _=>exact Nx.noConfusion (hx.uniq h)
theorem lf_bad {a z i:Nat}{l:List Wd}(hx:scn.Next bs a (.bad i))(hch:Chain bs a l z)(hz:(wb = -1∧scn.Next bs z .none)∨∃b:Nat,wb=b∧scn.Next bs z (.bad b)):l = []∧wb=i:=by
 cases hch with
 | nil =>
   rcases hz with⟨_,h⟩ | ⟨b,hb,h⟩
   ·exact Nx.noConfusion (hx.uniq h)
   ·have:=hx.uniq h
    injection this with this
    subst this
    exact⟨rfl,hb⟩
 |cons h _=>exact Nx.noConfusion (hx.uniq h)
theorem lf_word {a z i j:Nat}{l:List Wd}(hx:scn.Next bs a (.word i j))(hch:Chain bs a l z)(hz:(wb = -1∧scn.Next bs z .none)∨∃b:Nat,wb=b∧scn.Next bs z (.bad b)):∃r,l=(sub bs i j,i)::r∧Chain bs j r z:=by
 cases hch with
 | nil =>
   rcases hz with⟨_,h⟩ | ⟨b,_,h⟩
   ·exact Nx.noConfusion (hx.uniq h)
   ·exact Nx.noConfusion (hx.uniq h)
 | cons h k =>
   have:=hx.uniq h;injection this with h1 h2
   subst h1 h2;exact⟨_,rfl,k⟩
set_option maxHeartbeats 4000000 in
theorem rword_any (h:Rok w gr gs bs wb s sv)(hne:gr≠gs)(hn:bs.length≤1000000) :
 Calls Tryz.prog 75 #[.pointer (some ⟨gr,0,none⟩)] w fun e w'=>WordR w gr gs bs wb s sv e w':=by
 obtain⟨a,big,badAt,bigAt,hr,hs,⟨ha,z,hch,hz⟩,hbig⟩:=h;obtain⟨c0,c1,c2,c3,c4,c5,c6,cf⟩:=hr.cells;have hok:=ok_any hr;have hw:=word_any hs ha hn;have HR:=Hd hr;have HBIG:=Hd hbig;have HCH:=Hd hch;have HZ:=Hd hz;clear hr hs hbig hch hz c1 c2 c3 c4 c5 c6 cf
 go_enter Tryz.func75,Tryz.ntmps75
 go_wp2_with fail;refine hok.mono ?_;rintro e w1 ⟨rfl,rfl⟩;clear hok;go_wp2_with fail;refine hw.mono ?_;rintro e w2 (⟨i,hx,rfl,hs2,ht2⟩ | ⟨hx,rfl,hs2,ht2⟩ | ⟨i,j,hx,rfl,hs2,ht2⟩)
 ·have hr2:=ht2.blk HR.out hne
  have hwr:=wrong_any hr2 11 i;go_wp2_with fail;refine hwr.mono ?_;rintro e w3 ⟨⟨v,rfl⟩,hc,ht3⟩;go_wp2_with fail;go_ret2;refine⟨[],i,rfl,Nat.zero_le _,((ht2.mono fun k _ h=>Or.inr h).trans (ht3.mono (S':=fun k=>k=gr∨k=gs) fun k _ h=>Or.inl h) fun _ _ h=>h),?_⟩;obtain⟨hl,hb⟩:=lf_bad hx HCH.out HZ.out;obtain⟨l,bg,tl,sh⟩:=s;dsimp only at hl;subst hl;rcases hc with⟨_,hc⟩ | ⟨h0,_⟩
  ·have e1:eeOf wb=11:=by unfold eeOf;rw[hb,if_neg (by omega)]
   have e2:enOf bs wb=i:=by unfold enOf;rw[hb,if_neg (by omega)]
   rw[e1,e2];exact⟨_,_,_,hc,by decide⟩
  ·exact absurd rfl h0
 ·have hr2:=ht2.blk HR.out hne
  have hwr:=wrong_any hr2 4 bs.length;go_wp2_with fail;refine hwr.mono ?_;rintro e w3 ⟨⟨v,rfl⟩,hc,ht3⟩;go_wp2_with fail;go_ret2;refine⟨[],bs.length,rfl,Nat.zero_le _,((ht2.mono fun k _ h=>Or.inr h).trans (ht3.mono (S':=fun k=>k=gr∨k=gs) fun k _ h=>Or.inl h) fun _ _ h=>h),?_⟩;obtain⟨hl,hb⟩:=lf_none hx HCH.out HZ.out;obtain⟨l,bg,tl,sh⟩:=s;dsimp only at hl;subst hl;rcases hc with⟨_,hc⟩ | ⟨h0,_⟩
  ·have e1:eeOf wb=4:=by unfold eeOf;rw[if_pos hb]
   have e2:enOf bs wb=bs.length:=by unfold enOf;rw[if_pos hb]
   rw[e1,e2];exact⟨_,_,_,hc,by decide⟩
  ·exact absurd rfl h0
 ·go_wp2_with fail
  go_ret2;refine⟨_,i,rfl,by rw[sub_len hx.word_at.2.1.len];have:=hx.word_at.2.1.len;omega,ht2.mono fun k _ h=>Or.inr h,?_⟩;obtain⟨r,hl,hk⟩:=lf_word hx HCH.out HZ.out;obtain⟨l,bg,tl,sh⟩:=s;dsimp only at hl;subst hl;exact⟨rfl,rfl,j,big,badAt,bigAt,ht2.blk HR.out hne,hs2,⟨hx.word_at.2.1.len,z,hk,HZ.out⟩,HBIG.out⟩
theorem rword_bad {er at_:Int}(h:Rbad w gr gs er at_ sv):Calls Tryz.prog 75 #[.pointer (some ⟨gr,0,none⟩)] w fun e w'=>e = .returned (.tuple #[strV [],.int .i64 0])∧w=w':=by
 obtain⟨big,bigAt,told,hr,he⟩:=h;have hok:=ok_any hr;rw[decide_eq_false he]at hok;clear hr he
 go_enter Tryz.func75,Tryz.ntmps75
 go_wp2_with fail;refine hok.mono ?_;rintro e w1 ⟨rfl,rfl⟩;clear hok;go_wp2_with fail;go_ret2;exact⟨rfl,rfl⟩
end Go.Proofs.YtjpkkkphhaajgaaGreatDoor.wcp
namespace Go.Proofs.YtjpkkkphhaajgaaGreatDoor.wcp
open Go RowKit ChangeShapes WideShapes ChangeAt words scn
variable {w:World} {gr gs:Nat} {bs:List UInt8} {wb:Int} {s:Ps} {sv:Value}
theorem Rok.below {w':World}(h:Rok w gr gs bs wb s sv)(hb:Below w.heap.size w w'):Rok w' gr gs bs wb s sv:=by
 obtain⟨a,big,badAt,bigAt,hr,hs,hl,hg⟩:=h;exact⟨a,big,badAt,bigAt,Blk.under hr hb,hs.below hb,hl,hg⟩
def NumR (w:World)(gr gs:Nat)(bs:List UInt8)(wb:Int)(lo hi:Int)(s:Ps)(sv:Value)(e:Ending)(w':World):Prop :=
 ∃ (n x:Int),e = .returned (.tuple #[.int .i64 n,.int .i64 x])∧Tch w w' (fun k=>k=gr∨k=gs) ∧
  match pnum (enOf bs wb) (eeOf wb) lo hi s with
  | .ok v s'=>n=v.1∧x=v.2∧Rok w' gr gs bs wb s' sv
  | .bad er at_=>n=0∧Rbad w' gr gs er at_ sv
set_option maxHeartbeats 4000000 in
theorem rnum_any (h:Rok w gr gs bs wb s sv)(hne:gr≠gs)(hn:bs.length≤1000000)(lo hi:Int) :
 Calls Tryz.prog 77 #[.pointer (some ⟨gr,0,none⟩),.int .i64 lo,.int .i64 hi] w fun e w'=>NumR w gr gs bs wb lo hi s sv e w':=by
 have hw:=rword_any h hne hn;clear h
 go_enter Tryz.func77,Tryz.ntmps77
 go_wp2_with fail;refine hw.mono ?_;rintro e w1 ⟨v,x,rfl,hvl,ht1,hm⟩;have HT:=Hd ht1;clear hw ht1
 cases hp:pword (enOf bs wb) (eeOf wb) s with
 | bad er at_ =>
   rw[hp]at hm;dsimp only at hm;obtain⟨big,bigAt,told,hr,he⟩:=hm;have hok:=ok_any hr;rw[decide_eq_false he]at hok;have HR:=Hd (show Rbad w1 gr gs er at_ sv from⟨big,bigAt,told,hr,he⟩);have HP:=Hd hp;clear hr he hp;go_wp2_with fail;refine hok.mono ?_;rintro e w2 ⟨rfl,rfl⟩;clear hok;go_wp2_with fail;go_ret2;refine⟨0,x,rfl,HT.out,?_⟩;unfold pnum;rw[HP.out,Res.bind_bad]
   exact⟨rfl,HR.out⟩
 | ok wd s' =>
   rw[hp]at hm;dsimp only at hm;obtain⟨hv,hx,hm⟩:=hm;have HRK:=Hd hm;obtain⟨a,big,badAt,bigAt,hr,hs,hl,hg⟩:=hm;have hok:=ok_any hr;rw[decide_eq_true rfl]at hok;have hrd:=read_any v w1 (by omega);obtain⟨N,hN⟩:∃N,(readW v).1=N:=⟨_,rfl⟩;obtain⟨E,hE⟩:∃E,(readW v).2=E:=⟨_,rfl⟩;rw[hN,hE]at hrd;have HP:=Hd hp;have HX:=Hd hx;have HN:Hid ((readW wd.1).1=N∧(readW wd.1).2=E):=by rw[hv]at hN hE;exact⟨hN,hE⟩
   have HR:=Hd hr;clear hr hs hl hg hp hx hN hE hv;go_wp2_with fail;refine hok.mono ?_;rintro e w2 ⟨rfl,rfl⟩;clear hok;go_wp2_with fail;refine hrd.mono ?_;rintro e w4 ⟨rfl,hb4⟩;have hrb:=Blk.under HR.out hb4;clear hrd;have HRK4:=Hd (HRK.out.below hb4);by_cases hE:E=0
   ·subst hE
    by_cases h1:N<lo
    ·have d1:decide (N<lo)=true:=decide_eq_true h1
     have HC:Hid ((readW wd.1).2≠0∨(readW wd.1).1<lo∨(readW wd.1).1>hi) := .inr (.inl (by rw[HN.out.1];exact h1));clear h1;have hwr:=wrong_any hrb 4 x;go_wp2_with fail;refine hwr.mono ?_;rintro e w5 ⟨⟨u,rfl⟩,hc,ht5⟩;go_wp2_with fail;go_ret2;refine⟨0,x,rfl,((HT.out.trans (Tch.of_below hb4 (fun k=>k=gr∨k=gs)) fun _ _ h=>h).trans (ht5.mono (S':=fun k=>k=gr∨k=gs) fun k _ h=>Or.inl h) fun _ _ h=>h),?_⟩;unfold pnum;rw[HP.out,Res.bind_ok,if_pos HC.out];refine⟨rfl,?_⟩;rcases hc with⟨_,hc⟩ | ⟨h0,_⟩
     ·rw[← HX.out];exact⟨_,_,_,hc,by decide⟩
     ·exact absurd rfl h0
    ·have d1:decide (N<lo)=false:=decide_eq_false h1
     by_cases h2:hi<N
     ·have d2:decide (hi<N)=true:=decide_eq_true h2
      have HC:Hid ((readW wd.1).2≠0∨(readW wd.1).1<lo∨(readW wd.1).1>hi) := .inr (.inr (by rw[HN.out.1];exact h2));clear h1 h2;have hwr:=wrong_any hrb 4 x;go_wp2_with fail;refine hwr.mono ?_;rintro e w5 ⟨⟨u,rfl⟩,hc,ht5⟩;go_wp2_with fail;go_ret2;refine⟨0,x,rfl,((HT.out.trans (Tch.of_below hb4 (fun k=>k=gr∨k=gs)) fun _ _ h=>h).trans (ht5.mono (S':=fun k=>k=gr∨k=gs) fun k _ h=>Or.inl h) fun _ _ h=>h),?_⟩;unfold pnum;rw[HP.out,Res.bind_ok,if_pos HC.out];refine⟨rfl,?_⟩;rcases hc with⟨_,hc⟩ | ⟨h0,_⟩
      ·rw[← HX.out];exact⟨_,_,_,hc,by decide⟩
      ·exact absurd rfl h0
     ·have d2:decide (hi<N)=false:=decide_eq_false h2
      have HC:Hid (¬ ((readW wd.1).2≠0∨(readW wd.1).1<lo∨(readW wd.1).1>hi)):=by rw[Hid,HN.out.1,HN.out.2];omega
      clear h1 h2;go_wp2_with fail;go_ret2;refine⟨N,x,rfl,HT.out.trans (Tch.of_below hb4 (fun k=>k=gr∨k=gs)) fun _ _ h=>h,?_⟩;unfold pnum;rw[HP.out,Res.bind_ok,if_neg HC.out];exact⟨HN.out.1.symm,HX.out,HRK4.out⟩
   ·have hEb:(E != 0)=true:=by simp[hE]
    have HC:Hid ((readW wd.1).2≠0∨(readW wd.1).1<lo∨(readW wd.1).1>hi) := .inl (by rw[HN.out.2];exact hE);clear hE;have hwr:=wrong_any hrb 4 x;go_wp2_with fail;refine hwr.mono ?_;rintro e w5 ⟨⟨u,rfl⟩,hc,ht5⟩;go_wp2_with fail;go_ret2;refine⟨0,x,rfl,((HT.out.trans (Tch.of_below hb4 (fun k=>k=gr∨k=gs)) fun _ _ h=>h).trans (ht5.mono (S':=fun k=>k=gr∨k=gs) fun k _ h=>Or.inl h) fun _ _ h=>h),?_⟩;unfold pnum;rw[HP.out,Res.bind_ok,if_pos HC.out];refine⟨rfl,?_⟩;rcases hc with⟨_,hc⟩ | ⟨h0,_⟩
    ·rw[← HX.out];exact⟨_,_,_,hc,by decide⟩
    ·exact absurd rfl h0
theorem rnum_bad {er at_:Int}(h:Rbad w gr gs er at_ sv)(lo hi:Int):Calls Tryz.prog 77 #[.pointer (some ⟨gr,0,none⟩),.int .i64 lo,.int .i64 hi] w fun e w'=>e = .returned (.tuple #[.int .i64 0,.int .i64 0])∧w=w':=by
 have hw:=rword_bad h;obtain⟨big,bigAt,told,hr,he⟩:=h;have hok:=ok_any hr;rw[decide_eq_false he]at hok;clear hr he
 go_enter Tryz.func77,Tryz.ntmps77
 go_wp2_with fail;refine hw.mono ?_;rintro e w1 ⟨rfl,rfl⟩;clear hw;go_wp2_with fail;refine hok.mono ?_;rintro e w1 ⟨rfl,rfl⟩;clear hok;go_wp2_with fail;go_ret2;exact⟨rfl,rfl⟩
end Go.Proofs.YtjpkkkphhaajgaaGreatDoor.wcp
namespace Go.Proofs.YtjpkkkphhaajgaaGreatDoor.wcp
open Go RowKit ChangeShapes WideShapes ChangeAt words scn
variable {w:World} {gr gs:Nat} {bs:List UInt8} {wb:Int} {s:Ps} {sv:Value}
theorem Rok.tch {w':World}{S:Nat→Prop}(h:Rok w gr gs bs wb s sv)(ht:Tch w w' S)(h1:¬ S gr)(h2:¬ S gs)(hs:∀k cs,S k→¬ Blk w k 5 cs):Rok w' gr gs bs wb s sv:=by
 obtain⟨a,big,badAt,bigAt,hr,hsc,hl,hg⟩:=h;exact⟨a,big,badAt,bigAt,ht.blk hr h1,hsc.tch ht h2 hs,hl,hg⟩
theorem Rbad.tch {w':World}{S:Nat→Prop}{e x:Int}(h:Rbad w gr gs e x sv)(ht:Tch w w' S)(h1:¬ S gr):Rbad w' gr gs e x sv:=by
 obtain⟨big,bigAt,told,hr,he⟩:=h;exact⟨big,bigAt,told,ht.blk hr h1,he⟩
theorem Rok.grown {w':World}{base n:Nat}{e:TypeId}{sz:Nat}{v:Value}{xs:List Value}(h:Rok w gr gs bs wb s sv)(ho:w.ownsRow base e sz v n xs)(hg:w.grownBy w' v.ownBlock)(he:e≠5)(h1:gr<base)(h2:gs<base):Rok w' gr gs bs wb s sv :=
 h.tch (Tch.of_grown hg (S:=fun k=>some k=v.ownBlock) fun _ _ h=>h) (fun h=>by have:=(own_in ho h.symm).1;omega) (fun h=>by have:=(own_in ho h.symm).1;omega)
  fun k cs hk hb=>own_blk_ne ho hb he hk.symm
theorem Rbad.grown {w':World}{base n:Nat}{e:TypeId}{sz:Nat}{v:Value}{xs:List Value}{er x:Int}(h:Rbad w gr gs er x sv)(ho:w.ownsRow base e sz v n xs)(hg:w.grownBy w' v.ownBlock)(h1:gr<base):Rbad w' gr gs er x sv :=
 h.tch (Tch.of_grown hg (S:=fun k=>some k=v.ownBlock) fun _ _ h=>h) (fun h=>by have:=(own_in ho h.symm).1;omega)
theorem Rok.left (h:Rok w gr gs bs wb s sv):s.l.length≤bs.length:=by
 obtain⟨a,big,badAt,bigAt,hr,hsc,⟨ha,z,hc,hz⟩,hg⟩:=h
 have:∀ {a z:Nat} {l:List Wd},Chain bs a l z→a≤bs.length→a+l.length≤z∧z≤bs.length:=by
  intro a z l h
  induction h with
  |nil a=>exact fun h=>⟨Nat.le_refl _,h⟩
  | cons h1 _ ih =>
    intro h0;have hw:=h1.word_at;have:=ih hw.2.1.len;have:=hw.1.le;have:=hw.2.2.2;simp only[List.length_cons];omega
 have:=this hc ha;omega
theorem pword_len {en ee:Int}{s s':Ps}{v:Wd}(h:pword en ee s = .ok v s'):s'.l.length+1=s.l.length:=by
 obtain⟨l,b,t,sh⟩:=s
 cases l with
 |nil=>have h:(Res.bad ee en:Res Wd) = .ok v s':=h;cases h
 |cons x r=>unfold pword at h;injection h with h1 h2;subst h2;rfl
theorem pnum_len {en ee lo hi:Int}{s s':Ps}{v:Int × Int}(h:pnum en ee lo hi s = .ok v s'):s'.l.length+1=s.l.length:=by
 unfold pnum at h
 cases hp:pword en ee s with
 |bad e x=>rw[hp,Res.bind_bad]at h;cases h
 | ok wd s1 =>
   rw[hp,Res.bind_ok]at h;split at h
   ·cases h
   ·injection h with h1 h2;subst h2;exact pword_len hp
def Scp (w wr:World)(gr gs:Nat)(bs:List UInt8)(wb:Int)(n:Int)(k:Nat)(s:Ps)(sv:Value)(out:List Int)(A:Option Addr)(c i:Nat):Prop :=
 wr.ownsRow w.heap.size 2 1 (.slice A out.length c) out.length (nums out)∧Tch w wr (fun b=>b=gr∨b=gs)∧out.length≤bs.length+1 ∧
 ((∃s',Rok wr gr gs bs wb s' sv∧i≤k∧pscope (enOf bs wb) (eeOf wb) n k [] s=pscope (enOf bs wb) (eeOf wb) n (k-i) out s'∧out.length=i∧i+s'.l.length≤bs.length) ∨
  (∃er x,Rbad wr gr gs er x sv∧pscope (enOf bs wb) (eeOf wb) n k [] s = .bad er x))
theorem pscope_step (en ee n:Int)(k:Nat)(out:List Int)(s:Ps):pscope en ee n (k+1) out s=(pnum en ee 0 (n-1) s).bind fun v s=>if v.1∈out then .bad 4 v.2 else pscope en ee n k (out ++ [v.1]) s:=rfl
def ScopeR (w:World)(gr gs:Nat)(bs:List UInt8)(wb:Int)(n:Int)(k:Nat)(s:Ps)(sv:Value)(e:Ending)(w':World):Prop :=
 ∃ (out:List Int) (A:Option Addr) (c:Nat),e = .returned (.slice A out.length c)∧w'.ownsRow w.heap.size 2 1 (.slice A out.length c) out.length (nums out)∧Tch w w' (fun b=>b=gr∨b=gs)∧out.length≤bs.length+1 ∧
  match pscope (enOf bs wb) (eeOf wb) n k [] s with
  | .ok l s'=>out=l∧Rok w' gr gs bs wb s' sv
  | .bad er x=>Rbad w' gr gs er x sv
set_option maxRecDepth 100000 in
set_option maxHeartbeats 4000000 in
theorem rscope_any (h:Rok w gr gs bs wb s sv)(hne:gr≠gs)(hgr:gr<w.heap.size)(hgs:gs<w.heap.size)(hn:bs.length≤1000000)(k:Nat)(n:Int)(hk:k≤4611686018427387904)(hn0:0≤n)(hn1:n≤1000000) :
 Calls Tryz.prog 134 #[.pointer (some ⟨gr,0,none⟩),.int .i64 k,.int .i64 n] w fun e w'=>ScopeR w gr gs bs wb n k s sv e w':=by
 obtain⟨i0,hi0,hz0,hz1,hz2⟩:=info_parts (show (Tryz.prog.info? 2).map (fun i=>(i.zero,i.size,i.bytes))=some (some (.int .i64 0),1,8) by kernel_rfl);have hs0:Scp w w gr gs bs wb n k s sv [] none 0 0:=⟨World.ownsRow_nil _ _ _ _,Tch.refl _ _,by simp,.inl ⟨s,h,Nat.zero_le _,rfl,rfl,by have:=h.left;omega⟩⟩;clear h
 go_enter Tryz.func134,Tryz.ntmps134
 go_wp2_with fail
 go_loopw [7,8,9,10] (fun ov iv _ _ wr => ∃ (i:Nat) (out:List Int) (A:Option Addr) (c:Nat),iv = .int .i64 i∧i≤k+1∧ov = .slice A out.length c∧Scp w wr gr gs bs wb n k s sv out A c i) (fun _ iv _ _ _=>k+1-(intOf iv).toNat)
 case atStart=>exact⟨0,[],none,0,rfl,by omega,rfl,hs0⟩
 case round =>
  clear hs0;obtain⟨i,out,A,c,rfl,hik,rfl,ho,ht,hlo,hm⟩:=hrel;by_cases hlt:i<k
  ·have hltI:decide ((i:Int)<(k:Int))=true:=decide_eq_true (by omega)
   rcases hm with⟨s',hr,hi,hp,hol,hll⟩ | ⟨er,x,hr,hp⟩
   ·have hi1:i+s'.l.length≤bs.length:=hll
    have HOL:=Hd hol;have hoi:out.length≤bs.length:=by omega
    clear hol;have hrk:=hr;obtain⟨a,big,badAt,bigAt,hrb,hsc,hlf,hbg⟩:=hr;have hok:=ok_any hrb;rw[decide_eq_true rfl]at hok;have hnum:=rnum_any hrk hne hn 0 (n-1);have HO:=Hd ho;have HT:=Hd ht;have HP:=Hd hp;clear hrb hsc hlf hbg hrk ho ht hp;go_wp2_with fail;refine hok.mono ?_;rintro e w2 ⟨rfl,rfl⟩;clear hok;go_wp2_with fail;refine hnum.mono ?_;rintro e w3 ⟨v,x,rfl,ht3,hm3⟩;clear hnum;have ho3:=ht3.own HO.out (fun g hg h=>by have:=(own_in HO.out hg).1;omega);have hT3:=HT.out.trans ht3 fun _ _ h=>h
    obtain⟨kk,hkk⟩:∃kk,k-i=kk+1:=⟨k-i-1,by omega⟩;have hps:=HP.out;rw[hkk,pscope_step]at hps
    cases hpn:pnum (enOf bs wb) (eeOf wb) 0 (n-1) s' with
    | bad er x' =>
      rw[hpn]at hm3 hps;rw[Res.bind_bad]at hps;obtain⟨-,hrd⟩:=hm3;have HRD:=Hd hrd;have HPS:=Hd hps;obtain⟨b1,b2,b3,hrb,he⟩:=hrd;have hok:=ok_any hrb;rw[decide_eq_false he]at hok;obtain⟨wz,hwz⟩:∃wz,wz=w3:=⟨_,rfl⟩;have oz:=ho3;have TZ:=Hd hT3;rw[← hwz]at oz TZ HRD hok ⊢;clear hrb he hps hpn ho3 hT3 ht3 hwz;go_wp2_with fail;refine hok.mono ?_;rintro e w4 ⟨rfl,rfl⟩;clear hok;have hA1:=oz.alloc (.cells #[.int .i64 v] 2);have hr1:Reads (wz.alloc (.cells #[.int .i64 v] 2)) (wz.alloc (.cells #[.int .i64 v] 2)).heap.size 1 (some ⟨wz.heap.size,0,none⟩) 1 (nums [v]):=reads_block (t:=2) (heap_alloc_new _ _) rfl;have hsz:w.heap.size≤(wz.alloc (.cells #[.int .i64 v] 2)).heap.size:=by have:=TZ.out.size;simp;omega
      have OZ:=Hd hA1;clear oz
      go_wp2_with (first
       |(at_builtin;refine wpList_append_any _ rfl (.tmp 37) (.tmp 39) _ rfl w.heap.size 2 i0 _ 1 8 Tryz.underlying46 hi0 hz0 hz1 hz2 rfl (by omega) (.slice A out.length c) out.length _ rfl hA1 (wz.alloc (.cells #[.int .i64 v] 2)).heap.size (some ⟨wz.heap.size,0,none⟩) 1 1 (nums [v]) rfl hr1 nums_one (by simp only[maxLen];omega) (by omega) hsz ?_;intro v6 w6 hown6 hg6 hat6;clear hat6;obtain⟨A6,c6,rfl⟩:=own_shape hown6;have HO6:=Hd hown6;have HG6:Hid ((wz.alloc (.cells #[.int .i64 v] 2)).grownBy w6 (Value.slice A out.length c).ownBlock):=hg6;clear hown6 hg6 hA1 hr1)
       |fail)
      go_roundw
      case measure=>simp[intOf];omega
      case rel =>
       have hl:(out ++ [v]).length=out.length+1:=by simp
       have ho6:w6.ownsRow w.heap.size 2 1 (.slice A6 (out ++ [v]).length c6) (out ++ [v]).length (nums (out ++ [v])):=by
        rw[hl];have:=HO6.out;rw[show nums out++nums [v]=nums (out ++ [v]) by simp[nums]]at this;exact this
       have ht6:Tch w w6 (fun b=>b=gr∨b=gs):=(TZ.out.trans (Tch.of_below (bone wz _) _) fun _ _ h=>h).trans (S':=fun b=>w.heap.size≤b) (Tch.of_grown HG6.out fun q _ hq=>(own_in OZ.out hq.symm).1) fun q hq h=>by omega
       exact⟨i+1,out ++ [v],A6,c6,by go_num,by omega,by rw[hl],ho6,ht6,by rw[hl];omega,.inr ⟨er,x',(HRD.out.tch (Tch.of_below (bone wz _) (fun _=>False)) id).grown OZ.out HG6.out hgr,HPS.out⟩⟩
    | ok vx s2 =>
      rw[hpn]at hm3 hps;rw[Res.bind_ok]at hps;obtain⟨hv0,hx0,hr2⟩:=hm3;have hlen2:=pnum_len hpn;have HRK:=Hd hr2;obtain⟨a2,big2,badAt2,bigAt2,hrb2,hsc2,hlf2,hbg2⟩:=hr2;have hok:=ok_any hrb2;rw[decide_eq_true rfl]at hok;have hh:=has64_any A out.length c out v w3 (by omega) (Reads.of_own ho3);have HRB:=Hd hrb2;rw[← hv0,← hx0]at hps;clear hv0 hx0;by_cases hin:v∈out
      ·rw[if_pos hin]at hps
       rw[decide_eq_true hin]at hh;have HPS:=Hd hps;have HO3:=Hd ho3;have HT3:=Hd hT3;clear hrb2 hsc2 hlf2 hbg2 hps hpn ho3 hT3 ht3 hin;go_wp2_with fail;refine hok.mono ?_;rintro e w4 ⟨rfl,rfl⟩;clear hok;go_wp2_with fail;refine hh.mono ?_;rintro e w5 ⟨rfl,hb5⟩;clear hh;have hwr:=wrong_any (Blk.under HRB.out hb5) 4 x;go_wp2_with fail;refine hwr.mono ?_;rintro e wz ⟨⟨u,rfl⟩,hc,ht5⟩;clear hwr
       have hrd:Rbad wz gr gs 4 x sv:=by
        rcases hc with⟨_,hc⟩ | ⟨h0,_⟩
        ·exact⟨_,_,_,hc,by decide⟩
        ·exact absurd rfl h0
       have HRD:=Hd hrd;have oz:=ht5.own (own_under HO3.out hb5) (fun g hg h=>by have:=(own_in HO3.out hg).1;omega);have TZ:=Hd ((HT3.out.trans (Tch.of_below hb5 (fun b=>b=gr∨b=gs)) fun _ _ h=>h).trans (ht5.mono (S':=fun b=>b=gr∨b=gs) fun b _ h=>Or.inl h) fun _ _ h=>h);clear hrd ht5 hc hb5;have hA1:=oz.alloc (.cells #[.int .i64 v] 2);have hr1:Reads (wz.alloc (.cells #[.int .i64 v] 2)) (wz.alloc (.cells #[.int .i64 v] 2)).heap.size 1 (some ⟨wz.heap.size,0,none⟩) 1 (nums [v]):=reads_block (t:=2) (heap_alloc_new _ _) rfl;have hsz:w.heap.size≤(wz.alloc (.cells #[.int .i64 v] 2)).heap.size:=by have:=TZ.out.size;simp;omega
       have OZ:=Hd hA1;clear oz
       go_wp2_with (first
        |(at_builtin;refine wpList_append_any _ rfl (.tmp 37) (.tmp 39) _ rfl w.heap.size 2 i0 _ 1 8 Tryz.underlying46 hi0 hz0 hz1 hz2 rfl (by omega) (.slice A out.length c) out.length _ rfl hA1 (wz.alloc (.cells #[.int .i64 v] 2)).heap.size (some ⟨wz.heap.size,0,none⟩) 1 1 (nums [v]) rfl hr1 nums_one (by simp only[maxLen];omega) (by omega) hsz ?_;intro v6 w6 hown6 hg6 hat6;clear hat6;obtain⟨A6,c6,rfl⟩:=own_shape hown6;have HO6:=Hd hown6;have HG6:Hid ((wz.alloc (.cells #[.int .i64 v] 2)).grownBy w6 (Value.slice A out.length c).ownBlock):=hg6;clear hown6 hg6 hA1 hr1)
        |fail)
       go_roundw
       case measure=>simp[intOf];omega
       case rel =>
        have hl:(out ++ [v]).length=out.length+1:=by simp
        have ho6:w6.ownsRow w.heap.size 2 1 (.slice A6 (out ++ [v]).length c6) (out ++ [v]).length (nums (out ++ [v])):=by
         rw[hl];have:=HO6.out;rw[show nums out++nums [v]=nums (out ++ [v]) by simp[nums]]at this;exact this
        have ht6:Tch w w6 (fun b=>b=gr∨b=gs):=(TZ.out.trans (Tch.of_below (bone wz _) _) fun _ _ h=>h).trans (S':=fun b=>w.heap.size≤b) (Tch.of_grown HG6.out fun q _ hq=>(own_in OZ.out hq.symm).1) fun q hq h=>by omega
        exact⟨i+1,out ++ [v],A6,c6,by go_num,by omega,by rw[hl],ho6,ht6,by rw[hl];omega,.inr ⟨4,x,(HRD.out.tch (Tch.of_below (bone wz _) (fun _=>False)) id).grown OZ.out HG6.out hgr,HPS.out⟩⟩
      ·rw[if_neg hin]at hps
       rw[decide_eq_false hin]at hh;have HPS:=Hd hps;have HO3:=Hd ho3;have HT3:=Hd hT3;clear hrb2 hsc2 hlf2 hbg2 hps hpn ho3 hT3 ht3 hin;go_wp2_with fail;refine hok.mono ?_;rintro e w4 ⟨rfl,rfl⟩;clear hok;go_wp2_with fail;refine hh.mono ?_;rintro e wz ⟨rfl,hb5⟩;clear hh;have HRD:=Hd (HRK.out.below hb5);have oz:=own_under HO3.out hb5;have TZ:=Hd (HT3.out.trans (Tch.of_below hb5 (fun b=>b=gr∨b=gs)) fun _ _ h=>h);clear hb5;have hA1:=oz.alloc (.cells #[.int .i64 v] 2);have hr1:Reads (wz.alloc (.cells #[.int .i64 v] 2)) (wz.alloc (.cells #[.int .i64 v] 2)).heap.size 1 (some ⟨wz.heap.size,0,none⟩) 1 (nums [v]):=reads_block (t:=2) (heap_alloc_new _ _) rfl;have hsz:w.heap.size≤(wz.alloc (.cells #[.int .i64 v] 2)).heap.size:=by have:=TZ.out.size;simp;omega
       have OZ:=Hd hA1;clear oz
       go_wp2_with (first
        |(at_builtin;refine wpList_append_any _ rfl (.tmp 37) (.tmp 39) _ rfl w.heap.size 2 i0 _ 1 8 Tryz.underlying46 hi0 hz0 hz1 hz2 rfl (by omega) (.slice A out.length c) out.length _ rfl hA1 (wz.alloc (.cells #[.int .i64 v] 2)).heap.size (some ⟨wz.heap.size,0,none⟩) 1 1 (nums [v]) rfl hr1 nums_one (by simp only[maxLen];omega) (by omega) hsz ?_;intro v6 w6 hown6 hg6 hat6;clear hat6;obtain⟨A6,c6,rfl⟩:=own_shape hown6;have HO6:=Hd hown6;have HG6:Hid ((wz.alloc (.cells #[.int .i64 v] 2)).grownBy w6 (Value.slice A out.length c).ownBlock):=hg6;clear hown6 hg6 hA1 hr1)
        |fail)
       go_roundw
       case measure=>simp[intOf];omega
       case rel =>
        have hl:(out ++ [v]).length=out.length+1:=by simp
        have ho6:w6.ownsRow w.heap.size 2 1 (.slice A6 (out ++ [v]).length c6) (out ++ [v]).length (nums (out ++ [v])):=by
         rw[hl];have:=HO6.out;rw[show nums out++nums [v]=nums (out ++ [v]) by simp[nums]]at this;exact this
        have ht6:Tch w w6 (fun b=>b=gr∨b=gs):=(TZ.out.trans (Tch.of_below (bone wz _) _) fun _ _ h=>h).trans (S':=fun b=>w.heap.size≤b) (Tch.of_grown HG6.out fun q _ hq=>(own_in OZ.out hq.symm).1) fun q hq h=>by omega
        exact⟨i+1,out ++ [v],A6,c6,by go_num,by omega,by rw[hl],ho6,ht6,by rw[hl];omega,.inl ⟨s2,(HRD.out.below (bone wz _)).grown OZ.out HG6.out (by decide) hgr hgs,by omega,by rw[HPS.out];congr 1;omega,by rw[hl,HOL.out],by omega⟩⟩
   ·obtain⟨big,bigAt,told,hrb,he⟩:=hr
    have hok:=ok_any hrb;rw[decide_eq_false he]at hok;have HR:Hid (Rbad wr gr gs er x sv):=⟨big,bigAt,told,hrb,he⟩;have HO:=Hd ho;have HT:=Hd ht;have HP:=Hd hp;clear hrb he ho ht hp;go_wp2_with fail;refine hok.mono ?_;rintro e w2 ⟨rfl,rfl⟩;clear hok;go_wp2_with fail;go_ret;refine⟨out,A,c,rfl,HO.out,HT.out,hlo,?_⟩;rw[HP.out];exact HR.out
  ·have hltI:decide ((i:Int)<(k:Int))=false:=decide_eq_false (by omega)
   have HO:=Hd ho;have HT:=Hd ht;have HM:=Hd hm;clear ho ht hm;go_wp2_with fail;go_ret;refine⟨out,A,c,rfl,HO.out,HT.out,hlo,?_⟩;rcases HM.out with⟨s',hr,hi,hp,hol,hll⟩ | ⟨er,x,hr,hp⟩
   ·obtain rfl:i=k:=by omega
    rw[hp,Nat.sub_self];exact⟨rfl,hr⟩
   ·rw[hp];exact hr
end Go.Proofs.YtjpkkkphhaajgaaGreatDoor.wcp

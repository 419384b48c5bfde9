/- a part -/
import Derived.Test.YtjpkkkphhaajgaaGreatDoorQdP40
import Derived.Deep.CutBlock
import Derived.Test.YtjpkkkphhaajgaaGreatDoorQdRfSame
set_option linter.all false
namespace Go.Proofs.YtjpkkkphhaajgaaGreatDoor.wcp
open Go RowKit ChangeShapes WideShapes ChangeAt Maps words scn
open shp (Szs prodI InT idxI tupI allI)
noncomputable def rcbody:Code:=Tryz.f17.body.getD .skip
def RCanonR (w:World)(f:Fil)(e:Ending)(w':World):Prop :=
 ∃A c V,e = .returned (.slice A V.length c)∧V.map (·.2)=canonL f.sizes f.k f.funs∧w'.ownsRow w.heap.size 52 3 (.slice A V.length c) V.length (jcells V)∧(∀p∈V,GR w' w.heap.size p)∧Below w.heap.size w w'
theorem reads_sl {w:World}{B m cO i:Nat}{AO:Option Addr}{xs:List Value}(h:Reads w B 3 AO m xs)(hA:0<m→∃q,AO=some ⟨q,0,none⟩)(hi:i≤m)(hc:m≤cO):Reads w B 3 (if cO=i then AO else AO.map (·.add (i*3))) (m-i) (xs.drop (i*3)):=by
 by_cases h0:i=m
 ·subst h0
  refine⟨by rw[List.length_drop,h.1];omega,fun hh=>by omega⟩
 ·obtain⟨q,rfl⟩:=hA (by omega)
  rw[if_neg (by omega)];have:=reads_drop h hi;show Reads w B 3 (some ((⟨q,0,none⟩:Addr).add (i*3))) (m-i) (xs.drop (i*3));rw[add_at];exact this
theorem infoRF:(Tryz.prog.info? 52).map (fun i=>(i.zero,i.size,i.bytes))=some (some (.agg #[.slice none 0 0,.slice none 0 0,.slice none 0 0]),3,72):=by kernel_rfl
theorem jc_cell {w:World}{B:Nat}:∀ {V:List JT},(∀p∈V,GR w B p)→∀u∈jcells V,u.oneCell'=true
 | [],_,u,hu=>by cases hu
 | p::V,h,u,hu=>by
   obtain⟨a,b,c,e,⟨⟨A1,c1,rfl⟩,-⟩,⟨⟨A2,c2,rfl⟩,-⟩,⟨A3,c3,rfl⟩,-⟩:=h p (by simp);have h1:jcells (p::V)=jcells [p]++jcells V:=jc_append [p] V;rw[h1,jc_one e]at hu;rcases List.mem_append.1 hu with hu | hu
   ·simp only[List.mem_cons,List.not_mem_nil,or_false]at hu
    rcases hu with rfl | rfl | rfl<;>rfl
   ·exact jc_cell (fun q hq=>h q (by simp[hq])) u hu
theorem ins_cells {O:List JT}{p:JT}{i:Nat}{x y z:Value}(h3:Is3 O)(hp:p.1 = .agg #[x,y,z])(hi:i≤O.length):jcells (O.take i++p::O.drop i)=(jcells O).take (i*3)++([x,y,z]++(jcells O).drop (i*3)):=by
 have e:p::O.drop i = [p]++O.drop i:=rfl;rw[e,jc_append,jc_append,jc_take h3,jc_drop h3 hi,jc_one hp]
theorem ins_perm {L O:List JT}{p:JT}{i:Nat}(h:O.Perm L):(O.take i++p::O.drop i).Perm (L ++ [p]):=by
 have h1:(O.take i++p::O.drop i).Perm (p::(O.take i++O.drop i)):=List.perm_middle;rw[List.take_append_drop]at h1;exact h1.trans ((h.cons p).trans (List.perm_append_singleton p L).symm)
theorem ins_pw {O:List JT}{p:JT}{i:Nat}(ho:(O.map (·.2)).Pairwise fun a b=>cmpC a b<0)(hs:∀x∈O,x.2.scope≠p.2.scope)(h1:∀x∈O.take i,cmpC x.2 p.2<0)(h2:∀x,O[i]?=some x→¬ cmpC x.2 p.2<0) :
 ((O.take i++p::O.drop i).map (·.2)).Pairwise fun a b=>cmpC a b<0:=by
 have e:(O.take i++p::O.drop i).map (·.2)=(O.map (·.2)).take i++p.2::(O.map (·.2)).drop i:=by rw[List.map_append,List.map_cons,List.map_take,List.map_drop]
 rw[e];refine ins_ord ho (fun x hx=>?_) (fun x hx=>?_) fun x hx=>?_
 ·obtain⟨y,hy,rfl⟩:=List.mem_map.1 hx
  exact hs y hy
 ·rw[← List.map_take]at hx
  obtain⟨y,hy,rfl⟩:=List.mem_map.1 hx;exact h1 y hy
 ·rw[List.getElem?_map]at hx
  cases hc:O[i]? with
  |none=>rw[hc]at hx;cases hx
  | some y =>
    rw[hc]at hx;injection hx with hx
    subst hx;exact h2 y hc
theorem once_at {V:List JT}{j:Nat}{p:JT}(h:OnceC (V.map (·.2)))(hp:V[j]?=some p):∀x∈V.take j,x.2.scope≠p.2.scope:=fun x hx=>by
 have h1:V.Pairwise fun a b=>a.2.scope≠b.2.scope:=by
  have h0:=h;unfold OnceC at h0;rw[List.pairwise_map]at h0;exact h0
 rw[← List.take_append_drop j V]at h1;obtain⟨hl,e⟩:=List.getElem?_eq_some_iff.1 hp;refine (List.pairwise_append.1 h1).2.2 x hx p ?_;rw[List.drop_eq_getElem_cons hl,e];simp
theorem some_below {w w':World}{p:Addr}{v:Value}(h:Below w.heap.size w w')(hc:w.cell? p=some v):w'.cell? p=some v:=(h.cell (World.block_lt_of_cell? w p hc)).trans hc
theorem blk3 {w:World}{g:Nat}{t:TypeId}{a b c:Value}(h:Blk w g t #[a,b,c]):w.cell? ⟨g,0,none⟩=some a∧w.cell? ⟨g,1,none⟩=some b∧w.cell? ⟨g,2,none⟩=some c:=⟨h.cell 0,h.cell 1,h.cell 2⟩
set_option maxRecDepth 1000000 in
set_option maxHeartbeats 16000000 in
theorem rcanon_end {w wq:World}{f:Fil}{A:Option Addr}{n c:Nat}{VL:List JT}(hw:Below w.heap.size w wq)(hrow:wq.ownsRow w.heap.size 52 3 (.slice A n c) n (jcells VL))(hn:VL.length=n)(hgr:∀p∈VL,GR wq w.heap.size p)(hmap:VL.map (·.2)=joined f.sizes f.k f.funs)(hg:GoodFs f.sizes f.k f.funs)(hlen:n≤256)
 {k0 k1 k2 k4 k5 k6 k7 k8 k9 k10 k11 k12 k13 k14 k15 k16 k17 k18 k19 k20 k21 k22 k23 k24 k25 k26 k27 k28 k29 k30 k31 k32 k33 k34 k35 k36 k37 k38 k39 k40 k41 k42 k43 k44 k45 k46 k47 k48 k49 k50 k51 k52 k53 k54 k55 k56 k57 k58 k59 k60 k61 k62 k63 k64 k65 k66 k67 k68 k69 k70 k71 k72 k73 k74 k75 k76 k77 k78 k79 k80 k81 k82 k83 k84 k85 k86 k87 k88 k89 k90 k91 k92 k93 k94 k95 k96 k97 k98 k99 k100 k101 k102 k103 k104 k105 k106 k107 k108 k109 k110 k111 k112 k113 k114 k115 k116 k117 k118 k119 k120 k121 k122 k123 k124 k125 k126 k127 k128 k129 k130 k131 k132 k133 k134 k135 k136 k137 k138 k139:Value} :
 Code.wp Tryz.prog (sfx 3 rcbody) (bodyPost Tryz.prog Tryz.f17 fun e w'=>RCanonR w f e w') ⟨#[k0,k1,k2,.slice A n c,k4,k5,k6,k7,k8,k9,k10,k11,k12,k13,k14,k15,k16,k17,k18,k19,k20,k21,k22,k23,k24,k25,k26,k27,k28,k29,k30,k31,k32,k33,k34,k35,k36,k37,k38,k39,k40,k41,k42,k43,k44,k45,k46,k47,k48,k49,k50,k51,k52,k53,k54,k55,k56,k57,k58,k59,k60,k61,k62,k63,k64,k65,k66,k67,k68,k69,k70,k71,k72,k73,k74,k75,k76,k77,k78,k79,k80,k81,k82,k83,k84,k85,k86,k87,k88,k89,k90,k91,k92,k93,k94,k95,k96,k97,k98,k99,k100,k101,k102,k103,k104,k105,k106,k107,k108,k109,k110,k111,k112,k113,k114,k115,k116,k117,k118,k119,k120,k121,k122,k123,k124,k125,k126,k127,k128,k129,k130,k131,k132,k133,k134,k135,k136,k137,k138,k139],[]⟩ wq:=by
 have HW:=Hd hw;have HROW:=Hd hrow;have HN:=Hd hn;have HGR:=Hd hgr;have HMAP:=Hd hmap;have HG:=Hd hg;have H3:=Hd (GR.is3 hgr);have HON:Hid (OnceC (VL.map (·.2))):=by unfold Hid;rw[hmap];exact joined_once _ _ _
 have HS6:Hid (∀p∈VL,p.2.scope.length≤6):=fun p hp=>by
  have hj:p.2∈joined f.sizes f.k f.funs:=by rw[← hmap];exact List.mem_map.2 ⟨p,hp,rfl⟩
  have hgd:=joined_good hg p.2 hj;have h1:=hgd.szs.1;rw[hgd.sizes,szOf_len]at h1;exact h1
 clear hw hrow hn hgr hmap hg;obtain⟨iR,r0,r1,r2,r3⟩:=info_parts infoRF
 conv=>arg 2;whnf
 go_wp2_with fail
 go_loopw [10,92] (fun ov jv wr => ∃ (j m cO:Nat) (AO:Option Addr) (O:List JT),jv = .int .i64 j∧j≤n∧ov = .slice AO m cO∧Hid (O.length=m)∧Hid (O.Perm ((VL.take j).filter fun p => !isNothing p.2))∧Hid ((O.map (·.2)).Pairwise fun a b=>cmpC a b<0)∧Hid (wr.ownsRow wq.heap.size 52 3 (.slice AO m cO) m (jcells O))∧Hid (Below wq.heap.size wq wr)) (fun _ jv _=>n-(intOf jv).toNat)
 case atStart=>exact⟨0,0,0,none,[],rfl,Nat.zero_le _,rfl,rfl,List.Perm.refl _,List.Pairwise.nil,World.ownsRow_nil _ _ _ _,Below.refl _ _⟩
 case round =>
  obtain⟨j,m,cO,AO,O,rfl,hj,rfl,HL,HP,HO,HR,HB⟩:=hrel;by_cases hlt:j<n
  ·obtain⟨p,hp⟩:∃p,VL[j]?=some p:=⟨_,List.getElem?_eq_getElem (by have:=HN.out;omega)⟩
   obtain⟨v1,v2,v3,ep,⟨⟨A1,c1,rfl⟩,ho1⟩,⟨⟨A2,c2,rfl⟩,ho2⟩,⟨A3,c3,rfl⟩,ho3⟩:=HGR.out p (List.mem_of_getElem? hp);obtain⟨q,rfl,-,-⟩:=own_some HROW.out (by omega);obtain⟨d0,d1,d2⟩:=row3_cells (own_under HROW.out HB.out) HN.out H3.out hp ep;have j0:(0:Int)≤(j:Int):=Int.natCast_nonneg _;have j1:(j:Int)<(n:Int):=by omega
   have HP1:=Hd hp;have HEP:=Hd ep;have HO1:=Hd ho1;have HO2:=Hd ho2;have HO3:=Hd ho3;obtain⟨l1,hl1⟩:∃l,p.2.scope.length=l:=⟨_,rfl⟩;obtain⟨l2,hl2⟩:∃l,p.2.sizes.length=l:=⟨_,rfl⟩;obtain⟨l3,hl3⟩:∃l,p.2.C.length=l:=⟨_,rfl⟩;rw[hl1]at d0;rw[hl2]at d1;rw[hl3]at d2;have HL1:=Hd hl1;have HL2:=Hd hl2;have HL3:=Hd hl3;clear hp ep ho1 ho2 ho3 hl1 hl2 hl3;go_upto_region 25 with fail;obtain⟨b,hb⟩:∃b,wr.heap.size=b:=⟨_,rfl⟩;obtain⟨w1,hw1⟩:∃w1,wr.alloc (.cells #[.slice A1 l1 c1,.slice A2 l2 c2,.slice A3 l3 c3] 52)=w1:=⟨_,rfl⟩;have hb1:Below wr.heap.size wr w1:=by rw[← hw1];exact bone wr _
   have hblk:Blk w1 b 52 #[.slice A1 l1 c1,.slice A2 l2 c2,.slice A3 l3 c3]:=by rw[← hw1,← hb];exact Blk.new wr _ _
   have HB1:=Hd (bto HB.out hb1);have HR1:=Hd (own_under HR.out hb1);have HBLK:=Hd hblk;have hbw:wq.heap.size≤b:=by rw[← hb];exact HB.out.size
   have HBW:=Hd hbw;obtain⟨g0,g1,g2⟩:=blk3 hblk;rw[hb,hw1];clear hb hw1 hb1 hblk d0 d1 d2 hbw HR HB g0 g1;have HC3:Hid (w1.ownsRow w.heap.size 2 1 (.slice A3 l3 c3) l3 (nums p.2.C)):=by have:=own_under HO3.out HB1.out;rw[HL3.out]at this;exact this
   have hl3b:l3≤9223372036854775807:=by
    rcases HC3.out.2 with⟨-,h⟩ | ⟨g,cap,cur,e,-,-,h1,h2,-⟩
    ·omega
    ·unfold maxLen at h2;omega
   go_wp2_with fail;clear g2
   go_loopw [13,99] (fun bv qv wx => ∃q:Nat,qv = .int .i64 q∧q≤l3∧bv = .bool (anyP (p.2.C.take q))∧wx=w1) (fun _ qv _=>l3-(intOf qv).toNat)
   case atStart=>exact⟨0,rfl,Nat.zero_le _,rfl,rfl⟩
   case round =>
    obtain⟨q5,rfl,hq5,rfl,rfl⟩:=hrel;by_cases hlq:q5<l3
    ·obtain⟨x,hx⟩:∃x,p.2.C[q5]?=some x:=⟨_,List.getElem?_eq_getElem (by have:=HL3.out;omega)⟩
     obtain⟨qc,rfl,-,-⟩:=own_some HC3.out (by omega);have hcx:=(HC3.out.cellAt q5 (by omega)).trans (show (nums p.2.C)[q5]?=some (.int .i64 x) by unfold nums;rw[List.getElem?_map,hx];rfl);have q0:(0:Int)≤(q5:Int):=Int.natCast_nonneg _;have q1:(q5:Int)<(l3:Int):=by omega
     have HST:=Hd (anyP_step hx);obtain⟨bb,hbb⟩:∃bb,anyP (p.2.C.take q5)=bb:=⟨_,rfl⟩;have HBB:=Hd hbb;rw[hbb];clear hx hbb
     cases bb with
     | true =>
       have HN5:Hid (anyP (p.2.C.take (q5+1))=true):=by unfold Hid;rw[HST.out,HBB.out];rfl
       go_wp2_with fail;go_roundw
       case rel=>exact⟨q5+1,by go_num,by omega,by rw[HN5.out],trivial⟩
       case measure=>simp[intOf];omega
     | false =>
       have HN5:Hid (anyP (p.2.C.take (q5+1))=decide (0<x)):=by unfold Hid;rw[HST.out,HBB.out];rfl
       go_wp2_with fail;go_roundw
       case rel=>exact⟨q5+1,by go_num,by omega,by rw[HN5.out],trivial⟩
       case measure=>simp[intOf];omega
    ·obtain rfl:l3=q5:=by omega
     have hany:anyP (p.2.C.take l3) = !isNothing p.2:=by rw[List.take_of_length_le (by have:=HL3.out;omega),anyP_not]
     rw[hany];clear hany;have htk:VL.take (j+1)=VL.take j ++ [p]:=by rw[List.take_add_one,HP1.out];rfl
     by_cases hno:isNothing p.2=true
     ·have HPN:Hid (O.Perm ((VL.take (j+1)).filter fun p => !isNothing p.2)):=by
       unfold Hid;rw[htk,List.filter_append,List.filter_cons_of_neg (by simp[hno])]
       simpa using HP.out
      rw[hno,Bool.not_true];clear hno htk;go_wp2_with fail;go_roundw
      case rel=>exact⟨j+1,m,cO,AO,O,by go_num,by omega,rfl,HL,HPN,HO,HR1.out,HB1.out⟩
      case measure=>simp[intOf];omega
     ·have hno2:isNothing p.2=false:=by simpa using hno
      have HFL:Hid ((VL.take (j+1)).filter (fun p => !isNothing p.2)=(VL.take j).filter (fun p => !isNothing p.2) ++ [p]):=by
       unfold Hid;rw[htk,List.filter_append,List.filter_cons_of_pos (by simp[hno2])];rfl
      rw[hno2,Bool.not_false];clear hno hno2 htk
      have hm:m≤256:=by
       have h1:=HP.out.length_eq;have h2:=List.length_filter_le (fun p:JT => !isNothing p.2) (VL.take j);rw[List.length_take]at h2;have:=HL.out;omega
      go_upto_block 10 with fail
      obtain⟨w1,rfl⟩:∃w1,w1=wr:=⟨_,rfl⟩
      go_cut [16] from 111 to 124 (fun iv wy => ∃i:Nat,iv = .int .i64 i∧i≤m∧Hid (∀x∈O.take i,cmpC x.2 p.2<0)∧Hid (∀x,O[i]?=some x→¬ cmpC x.2 p.2<0)∧Hid (Below w1.heap.size w1 wy))
      case first =>
       go_wp2_with fail
       go_loopw [16] (fun iv wx => ∃i:Nat,iv = .int .i64 i∧i≤m∧Hid (∀x∈O.take i,cmpC x.2 p.2<0)∧Hid (Below w1.heap.size w1 wx)) (fun iv _=>m-(intOf iv).toNat)
       case atStart=>exact⟨0,rfl,Nat.zero_le _,fun x hx=>by simp at hx,Below.refl _ _⟩
       case round =>
        obtain⟨i,rfl,hi,HLS,HBX⟩:=hrel;obtain⟨wx,rfl⟩:∃wx,wx=wr:=⟨_,rfl⟩;obtain⟨g0,g1,g2⟩:=blk3 (HBLK.out.under HBX.out);have i0:(0:Int)≤(i:Int):=Int.natCast_nonneg _;by_cases hli:i<m
        ·have i1:(i:Int)<(m:Int):=by omega
         have hdi:decide ((i:Int)<(m:Int))=true:=decide_eq_true i1;obtain⟨o,ho⟩:∃o,O[i]?=some o:=⟨_,List.getElem?_eq_getElem (by have:=HL.out;omega)⟩;have hoV:o∈VL:=List.mem_of_mem_take (List.mem_filter.1 (HP.out.mem_iff.1 (List.mem_of_getElem? ho))).1;obtain⟨u1,u2,u3,eo,⟨⟨B1,e1,rfl⟩,po1⟩,⟨⟨B2,e2,rfl⟩,po2⟩,⟨B3,e3,rfl⟩,po3⟩:=HGR.out o hoV;have hox:=own_under HR1.out HBX.out;obtain⟨qo,rfl,-,-⟩:=own_some hox (by omega);have hO3:Is3 O:=fun x hx=>H3.out x (List.mem_of_mem_take (List.mem_filter.1 (HP.out.mem_iff.1 hx)).1)
         obtain⟨d0,d1,d2⟩:=row3_cells hox HL.out hO3 ho eo;obtain⟨s1,hs1⟩:∃l,o.2.scope.length=l:=⟨_,rfl⟩;obtain⟨s2,hs2⟩:∃l,o.2.sizes.length=l:=⟨_,rfl⟩;obtain⟨s3,hs3⟩:∃l,o.2.C.length=l:=⟨_,rfl⟩;rw[hs1]at d0 po1;rw[hs2]at d1;rw[hs3]at d2;have hbx:Below wq.heap.size wq wx:=bto HB1.out HBX.out;have hp1:=own_under HO1.out hbx;rw[HL1.out]at hp1;have hless:=less8_any B1 A1 B2 B3 A2 A3 s1 l1 e1 c1 s2 e2 s3 e3 l2 c2 l3 c3 o.2.scope p.2.scope wx.drew (by have:=HS6.out o hoV;omega) (by have:=HS6.out p (List.mem_of_getElem? HP1.out);have:=HL1.out;omega) (Reads.of_own (own_under po1 hbx.drew)) (Reads.of_own hp1.drew);rw[less_cmp]at hless;have HLE:=Hd hless;have HOI:=Hd ho;have HBXQ:=Hd hbx;clear eo po1 po2 po3 hox hO3 hs1 hs2 hs3 hp1 hless ho hoV hbx;go_upto_region 33 with fail;refine wp_region_held_drew (S:=fun W=>W.cell? ⟨qo,i*3,none⟩=some (.slice B1 s1 e1)∧W.cell? ⟨qo,i*3+1,none⟩=some (.slice B2 s2 e2)∧W.cell? ⟨qo,i*3+2,none⟩=some (.slice B3 s3 e3)∧W.cell? ⟨b,0,none⟩=some (.slice A1 l1 c1)∧W.cell? ⟨b,1,none⟩=some (.slice A2 l2 c2)∧W.cell? ⟨b,2,none⟩=some (.slice A3 l3 c3)) (by kernel_rfl) ⟨d0,d1,d2,g0,g1,g2⟩ (fun hHeld=>?_);refine takes [0,1,2,3,4,5,6,7,8,9] hHeld (by kernel_rfl) (fun _ _ _ _ _ h=>h) ?_
         iterate 10
          conv=>whnf
          refine⟨?_,.inl ⟨by kernel_rfl,fun w hSw=>?_⟩,?_⟩
          rotate_left
          ·(try dsimp only at hSw);go_simp;try with_reducible rfl
          try simp only[Act.put,ya,yb,yc]
         refine Yt.nil ?_;refine wpAnyH_ready (rs := [10]) (by kernel_rfl) (by simp) ?_;refine AllReadyH.cons rfl (fun Kc hKc=>?_) AllReadyH.nil;go_simp
         with_reducible refine HLE.out.mono ?_
         rintro e wy ⟨rfl,hby⟩;dsimp only;have hby':Below wx.heap.size wx wy:=⟨hby.os,hby.tape,hby.output,hby.size,hby.block⟩;have HBY:=Hd (bto HBX.out hby');refine hKc.out _ _ ⟨some_below hby' d0,some_below hby' d1,some_below hby' d2,some_below hby' g0,some_below hby' g1,some_below hby' g2⟩ (fun hH=>?_);clear hKc Kc hby hby' d0 d1 d2 g0 g1 g2;by_cases hc:cmpC o.2 p.2<0
         ·rw[decide_eq_true hc]
          have HNX:Hid (∀x∈O.take (i+1),cmpC x.2 p.2<0):=fun x hx=>by
           rw[List.take_add_one,HOI.out]at hx;rcases List.mem_append.1 hx with hx | hx
           ·exact HLS.out x hx
           ·rw[List.mem_singleton.1 hx];exact hc
          clear hc;refine takes [11] hH (by kernel_rfl) (fun _ _ _ _ _ h=>h) ?_
          iterate 1
           conv=>whnf
           refine⟨?_,.inl ⟨by kernel_rfl,fun w hSw=>?_⟩,?_⟩
           rotate_left
           ·(try dsimp only at hSw);go_simp;try with_reducible rfl
           try simp only[Act.put,ya,yb,yc]
          refine Yt.nil ?_;refine wpAnyH_done (by kernel_rfl) ?_ _;go_simp
          try go_wp2_with fail
          go_roundw
          case rel=>exact⟨i+1,by go_num,by omega,HNX,HBY⟩
          case measure=>simp[intOf];omega
         ·rw[decide_eq_false hc]
          have HNX:Hid (∀x,O[i]?=some x→¬ cmpC x.2 p.2<0):=fun x hx=>by rw[HOI.out]at hx;injection hx with hx;subst hx;exact hc
          clear hc;refine takes [11] hH (by kernel_rfl) (fun _ _ _ _ _ h=>h) ?_
          iterate 1
           conv=>whnf
           refine⟨?_,.inl ⟨by kernel_rfl,fun w hSw=>?_⟩,?_⟩
           rotate_left
           ·(try dsimp only at hSw);go_simp;try with_reducible rfl
           try simp only[Act.put,ya,yb,yc]
          refine Yt.nil ?_;refine wpAnyH_done (by kernel_rfl) ?_ _;go_simp
          try go_wp2_with fail
          go_meet
          case rel=>exact⟨i,rfl,hi,HLS,HNX,HBY⟩
        ·have HIM:Hid (i=m):=by unfold Hid;omega
         have hdi:decide ((i:Int)<(m:Int))=false:=decide_eq_false (by have:=HIM.out;omega);have HNX:Hid (∀x,O[i]?=some x→¬ cmpC x.2 p.2<0):=fun x hx=>by rw[List.getElem?_eq_none (by rw[HL.out];have:=HIM.out;omega)]at hx;cases hx
         go_upto_region 33 with fail;refine wp_region_held_drew (S:=fun W=>W.cell? ⟨b,0,none⟩=some (.slice A1 l1 c1)∧W.cell? ⟨b,1,none⟩=some (.slice A2 l2 c2)∧W.cell? ⟨b,2,none⟩=some (.slice A3 l3 c3)) (by kernel_rfl) ⟨g0,g1,g2⟩ (fun hHeld=>?_);refine takes [0,1,2,3,4] hHeld (by kernel_rfl) (fun _ _ _ _ _ h=>h) ?_
         iterate 5
          conv=>whnf
          refine⟨?_,.inl ⟨by kernel_rfl,fun w hSw=>?_⟩,?_⟩
          rotate_left
          ·(try dsimp only at hSw);go_simp;try with_reducible rfl
          try simp only[Act.put,ya,yb,yc]
         refine Yt.nil ?_;refine takes [5,6,7,8,9] hHeld (by kernel_rfl) (fun _ _ _ _ _ h=>h) ?_
         iterate 5
          conv=>whnf
          refine⟨_,.inr ⟨by kernel_rfl,rfl⟩,?_⟩
          try simp only[Act.put,ya,yb,yc]
         refine Yt.nil ?_;refine wpAnyH_ready (rs := [10]) (by kernel_rfl) (by simp) ?_;refine AllReadyH.cons rfl (fun Kc hKc=>?_) AllReadyH.nil;go_simp;refine hKc.out _ _ hHeld (fun hH=>?_);clear hKc Kc g0 g1 g2
         try simp only[Act.put,ya,yb,yc]
         refine takes [11] hH (by kernel_rfl) (fun _ _ _ _ _ h=>h) ?_
         iterate 1
          conv=>whnf
          refine⟨?_,.inl ⟨by kernel_rfl,fun w hSw=>?_⟩,?_⟩
          rotate_left
          ·(try dsimp only at hSw);go_simp;try with_reducible rfl
          try simp only[Act.put,ya,yb,yc]
         refine Yt.nil ?_;refine wpAnyH_done (by kernel_rfl) ?_ _;go_simp
         try go_wp2_with fail
         have HBY:Hid (Below w1.heap.size w1 wx.drew):=HBX.out.drew;obtain⟨wy,hwy⟩:∃wy,wx.drew=wy:=⟨_,rfl⟩;rw[hwy]at HBY ⊢;clear hwy
         go_meet
         case rel=>exact⟨i,rfl,hi,HLS,HNX,HBY⟩
      case rest =>
       obtain⟨i,rfl,hi,HLS,HNX,HBY⟩:=hcut;obtain⟨wy,rfl⟩:∃wy,wy=wc:=⟨_,rfl⟩;obtain⟨AX,hAX⟩:∃AX:Option Addr,AX=AO:=⟨_,rfl⟩;rw[← hAX]at HR1 ⊢;have HAX:Hid (0<m→∃q,AX=some ⟨q,0,none⟩):=fun h=>by obtain⟨q,e,-⟩:=own_some HR1.out h;exact⟨q,e⟩
       clear hAX;obtain⟨g0,g1,g2⟩:=blk3 (HBLK.out.under HBY.out);have hi0':(0:Int)≤(i:Int):=Int.natCast_nonneg _;have hi1':(i:Int)≤(m:Int):=by omega
       go_upto_region 35 with fail;refine wp_region_held_drew (S:=fun W=>W.cell? ⟨b,0,none⟩=some (.slice A1 l1 c1)∧W.cell? ⟨b,1,none⟩=some (.slice A2 l2 c2)∧W.cell? ⟨b,2,none⟩=some (.slice A3 l3 c3)) (by kernel_rfl) ⟨g0,g1,g2⟩ (fun hHe=>?_);refine takes [0,2,3] hHe (by kernel_rfl) (fun _ _ _ _ _ h=>h) ?_
       iterate 3
        conv=>whnf
        refine⟨?_,.inl ⟨by kernel_rfl,fun w hSw=>?_⟩,?_⟩
        rotate_left
        ·(try dsimp only at hSw);go_simp;try with_reducible rfl
        try simp only[Act.put,ya,yb,yc]
       refine Yt.nil ?_;obtain⟨AS,hAS⟩:∃AS,(if cO=i then AX else AX.map (·.add (i*3)))=AS:=⟨_,rfl⟩;refine takes [4] hHe (by kernel_rfl) (fun _ _ _ _ _ h=>h) ?_
       conv=>whnf
       refine⟨.slice AS (m-i) (cO-i),.inl ⟨by kernel_rfl,fun w hSw=>?_⟩,?_⟩
       ·rw[← hAS]
        go_simp
       try simp only[Act.put,ya,yb,yc]
       refine Yt.nil ?_;refine wpAnyH_ready (rs := [1]) (by kernel_rfl) (by simp) ?_;refine AllReadyH.cons rfl (fun Kc hKc=>?_) AllReadyH.nil;go_simp;obtain⟨sy,hsy⟩:∃sy,wy.heap.size=sy:=⟨_,rfl⟩;obtain⟨wa,hwa⟩:∃wa,(wy.alloc (.cells #[.slice A1 l1 c1,.slice A2 l2 c2,.slice A3 l3 c3] 52)).drew=wa:=⟨_,rfl⟩;have hba:Below wy.heap.size wy wa:=by rw[← hwa];exact (bone wy _).drew
       have hsw:w1.heap.size≤sy:=by rw[← hsy];exact HBY.out.size
       have hsq:wq.heap.size≤sy:=Nat.le_trans HB1.out.size hsw
       have hoa:wa.ownsRow wq.heap.size 52 3 (.slice (some ⟨sy,0,none⟩) 1 1) 1 [.slice A1 l1 c1,.slice A2 l2 c2,.slice A3 l3 c3]:=by
        have h1:wq.heap.size≤wy.heap.size:=by rw[hsy];exact hsq
        have h2:=World.ownsRow_lit (e:=52) (size:=3) wy #[.slice A1 l1 c1,.slice A2 l2 c2,.slice A3 l3 c3] 1 h1 (by decide) rfl |>.drew;rw[hwa]at h2;rw[← hsy];exact h2
       rw[hsy,hwa];have HBA:=Hd (bto HBY.out hba);have HOA:=Hd hoa;have HSW:=Hd hsw;have HSQ:=Hd hsq;refine hKc.out _ _ (blk3 (HBLK.out.under HBA.out)) (fun hH2=>?_);clear hKc Kc hwa hba hoa hsy g0 g1 g2 hsw hsq
       try simp only[Act.put,ya,yb,yc]
       refine wpAnyH_ready (rs := [5]) (by kernel_rfl) (by simp) ?_;refine AllReadyH.cons rfl (fun Kc hKc=>?_) AllReadyH.nil;have hGO:∀x∈O,GR wq w.heap.size x:=fun x hx=>HGR.out x (List.mem_of_mem_take (List.mem_filter.1 (HP.out.mem_iff.1 hx)).1)
       have hone:∀u∈(jcells O).drop (i*3),u.oneCell'=true:=fun u hu=>jc_cell hGO u (List.mem_of_mem_drop hu)
       have hcap:=own_cap HR1.out;have hrs:=reads_sl (Reads.of_own (own_under HR1.out HBA.out)) HAX.out hi hcap;rw[hAS]at hrs;clear hAS;have hsa:wq.heap.size≤wa.heap.size:=Nat.le_trans HB1.out.size HBA.out.size;refine step_append_any _ rfl (.tmp 126) (.tmp 129) 44 rfl wq.heap.size 52 iR _ 3 72 Tryz.underlying44 r0 r1 r2 r3 rfl (by omega) (.slice (some ⟨sy,0,none⟩) 1 1) 1 _ rfl HOA.out wa.heap.size _ (m-i) (cO-i) ((jcells O).drop (i*3)) rfl hrs hone (by simp only[maxLen];omega) (by omega) hsa ?_;intro v9 w9 hown9 hg9 hat9;clear hat9;obtain⟨A9,c9,rfl⟩:=own_shape hown9;have hb9:Below w1.heap.size w1 w9:=HBA.out.grown hg9 HBA.out.size (fun g hg=>by have h1:=HSW.out;have h2:some sy=some g:=hg;injection h2 with h2;omega);have HB9:=Hd hb9;have HO9:=Hd hown9;have HCAP:=Hd hcap;refine hKc.out _ _ (blk3 (HBLK.out.under HB9.out)) (fun hH3=>?_);clear hKc Kc hGO hone hcap hrs hsa hown9 hg9 hb9;refine takes [6] hH3 (by kernel_rfl) (fun _ _ _ _ _ h=>h) ?_
       iterate 1
        conv=>whnf
        refine⟨?_,.inl ⟨by kernel_rfl,fun w hSw=>?_⟩,?_⟩
        rotate_left
        ·(try dsimp only at hSw);go_simp;try with_reducible rfl
        try simp only[Act.put,ya,yb,yc]
       refine Yt.nil ?_;refine wpAnyH_done (by kernel_rfl) ?_ _;go_simp;obtain⟨wb,hwb⟩:∃wb,w9.alloc (.cells #[] 52)=wb:=⟨_,rfl⟩;have hbb:Below w9.heap.size w9 wb:=by rw[← hwb];exact bone w9 _
       obtain⟨sz,hsz⟩:∃sz,w9.heap.size=sz:=⟨_,rfl⟩;have hsw:w1.heap.size≤sz:=by rw[← hsz];exact HB9.out.size
       have hsq:wq.heap.size≤sz:=Nat.le_trans HB1.out.size hsw
       have hob:wb.ownsRow wq.heap.size 52 3 (.slice (some ⟨sz,0,none⟩) 0 0) 0 []:=by
        have h1:wq.heap.size≤w9.heap.size:=by rw[hsz];exact hsq
        have h2:=World.ownsRow_lit (e:=52) (size:=3) w9 #[] 0 h1 (by decide) rfl;rw[hwb]at h2;rw[← hsz];exact h2
       have HBB:=Hd (bto HB9.out hbb);have HOB:=Hd hob;have HRT:=Hd (own_under HO9.out hbb);have HRX:=Hd (Reads.of_own (own_under HR1.out (bto HB9.out hbb)));have HSW:=Hd hsw;have HSZ:=Hd hsz;have HWB:=Hd hwb;have hsb:wq.heap.size≤wb.heap.size:=Nat.le_trans HB1.out.size HBB.out.size;have hone:∀u∈(jcells O).take (i*3),u.oneCell'=true:=fun u hu=>jc_cell (fun x hx=>HGR.out x (List.mem_of_mem_take (List.mem_filter.1 (HP.out.mem_iff.1 hx)).1)) u (List.mem_of_mem_take hu)
       clear hwb hbb hsz hsw hsq hob;have hic:(i:Int)≤(cO:Int):=by have:=HCAP.out;omega
       have hic2:i≤cO:=by have:=HCAP.out;omega
       go_wp2_with (first
        |(at_builtin;rw[HSZ.out,HWB.out];refine wpList_append_any _ rfl (.tmp 131) (.tmp 134) _ rfl wq.heap.size 52 iR _ 3 72 Tryz.underlying44 r0 r1 r2 r3 rfl (by omega) (.slice (some ⟨sz,0,none⟩) 0 0) 0 [] rfl HOB.out wb.heap.size _ i cO ((jcells O).take (i*3)) rfl (reads_take HRX.out hi) hone (by simp only[maxLen];omega) (by omega) hsb ?_;intro v10 w10 hown10 hg10 hat10;clear hat10;rw[Nat.zero_add,List.nil_append]at hown10;obtain⟨A10,c10,rfl⟩:=own_shape hown10;have HO10:=Hd hown10;have HB10:=Hd (bto HB1.out (HBB.out.grown hg10 HBB.out.size (fun g hg=>by have h1:=HSW.out;have h2:some sz=some g:=hg;injection h2 with h2;omega)));have HT10:=Hd ((Tch.of_grown hg10 (S:=fun q=>q=sz) (fun q _ hq=>by injection hq)).own HRT.out (fun q hq e=>by have h1:=(own_in HO9.out hq).2;have h2:=HSZ.out;omega));have hs10:wq.heap.size≤w10.heap.size:=HB10.out.size;have hon2:∀u ∈ [Value.slice A1 l1 c1,.slice A2 l2 c2,.slice A3 l3 c3]++(jcells O).drop (i*3),u.oneCell'=true:=(fun u hu=>by
         rcases List.mem_append.1 hu with hu | hu
         ·simp only[List.mem_cons,List.not_mem_nil,or_false]at hu
          rcases hu with rfl | rfl | rfl<;>rfl
         ·exact jc_cell (fun x hx=>HGR.out x (List.mem_of_mem_take (List.mem_filter.1 (HP.out.mem_iff.1 hx)).1)) u (List.mem_of_mem_drop hu));clear hown10 hg10 hone hsb)
        |(at_builtin;refine wpList_append_any _ rfl (.tmp 135) (.tmp 136) _ rfl wq.heap.size 52 iR _ 3 72 Tryz.underlying44 r0 r1 r2 r3 rfl (by omega) (.slice A10 i c10) i _ rfl HO10.out w10.heap.size _ (1+(m-i)) c9 _ rfl (Reads.of_own HT10.out) hon2 (by simp only[maxLen];omega) (by omega) hs10 ?_;intro v11 w11 hown11 hg11 hat11;clear hat11;rw[show i+(1+(m-i))=m+1 by omega]at hown11;obtain⟨A11,c11,rfl⟩:=own_shape hown11;have HO11:=Hd hown11;have HB11:=Hd (HB10.out.grown hg11 HB10.out.size (fun g hg=>(own_in HO10.out hg).1));clear hown11 hg11 hon2 hs10)
        |fail)
       go_roundw
       case measure=>simp[intOf];omega
       case rel =>
        have hO3:Is3 O:=fun x hx=>H3.out x (List.mem_of_mem_take (List.mem_filter.1 (HP.out.mem_iff.1 hx)).1)
        have hep:=HEP.out;rw[HL1.out,HL2.out,HL3.out]at hep;have hiO:i≤O.length:=by rw[HL.out];exact hi
        refine⟨j+1,m+1,c11,A11,O.take i++p::O.drop i,by go_num,by omega,rfl,?_,?_,?_,?_,HB11.out⟩
        ·unfold Hid
         rw[List.length_append,List.length_cons,List.length_take,List.length_drop,HL.out];omega
        ·unfold Hid
         rw[HFL.out];exact ins_perm HP.out
        ·exact ins_pw HO.out (fun x hx=>once_at HON.out HP1.out x (List.mem_filter.1 (HP.out.mem_iff.1 hx)).1) HLS.out (fun x hx=>by have:=HNX.out x hx;omega)
        ·unfold Hid
         rw[ins_cells hO3 hep hiO];exact HO11.out
  ·obtain rfl:j=n:=by omega
   go_wp2_with fail
   have hOm:O.Perm (VL.filter fun p => !isNothing p.2):=by
    have:=HP.out;rw[List.take_of_length_le (by have:=HN.out;omega)]at this;exact this
   have hcan:O.map (·.2)=canonL f.sizes f.k f.funs:=by
    refine rcanon_is HG.out ?_ HO.out;have:=hOm.map (fun p:JT=>p.2);rw[show (VL.filter fun p => !isNothing p.2).map (fun p:JT=>p.2)=(VL.map (fun p:JT=>p.2)).filter fun g => !isNothing g from (List.filter_map ..).symm ▸ rfl,HMAP.out]at this;exact this
   go_ret;refine⟨AO,cO,O,by rw[HL.out];rfl,hcan,?_,fun p hp=>(HGR.out p (List.mem_filter.1 (hOm.mem_iff.1 hp)).1).under HB.out,bto HW.out HB.out⟩;rw[HL.out];exact own_base HR.out HW.out.size
theorem set_same {α:Type}{l:List α}{i:Nat}{a:α}(h:l[i]?=some a):l.set i a=l:=by
 apply List.ext_getElem?
 intro k;rw[List.getElem?_set];split
 ·subst_vars
  obtain⟨hl,e⟩:=List.getElem?_eq_some_iff.1 h;rw[h];simp[hl]
 ·rfl
theorem ap_at {V:List JT}(h:V.Pairwise fun p q=>cblk p≠cblk q){i k:Nat}{p q:JT}(hi:V[i]?=some p)(hk:V[k]?=some q)(hne:k≠i):cblk q≠cblk p:=by
 obtain⟨h1,e1⟩:=List.getElem?_eq_some_iff.1 hi;obtain⟨h2,e2⟩:=List.getElem?_eq_some_iff.1 hk;subst e1 e2;rcases Nat.lt_or_gt_of_ne hne with hl | hl
 ·exact List.pairwise_iff_getElem.1 h k i h2 h1 hl
 ·exact fun e=>List.pairwise_iff_getElem.1 h i k h1 h2 hl e.symm
theorem cblk_fst {p q:JT}(h:p.1=q.1):cblk p=cblk q:=by unfold cblk;rw[h]
theorem part_step {S C:List Int}{q:Nat}{v:Int}(hS:S[q]?=some v)(hq:q<C.length):(S.take q++C.drop q).set q v=S.take (q+1)++C.drop (q+1):=by
 obtain⟨hl,-⟩:=List.getElem?_eq_some_iff.1 hS;have e1:S.take (q+1)=S.take q ++ [v]:=by rw[List.take_add_one,hS];rfl
 have e3:(S.take q).length=q:=by rw[List.length_take];omega
 rw[e1,List.drop_eq_getElem_cons hq,List.append_assoc,List.set_append_right _ _ (by omega),e3,Nat.sub_self];rfl
theorem part_at {S C:List Int}{q:Nat}{v:Int}(hS:q≤S.length)(hC:C[q]?=some v):(S.take q++C.drop q)[q]?=some v:=by
 have e3:(S.take q).length=q:=by rw[List.length_take];omega
 rw[List.getElem?_append_right (by omega),e3,Nat.sub_self,List.getElem?_drop];exact hC
theorem RFn.off64 {w w':World}{B b3:Nat}{v1 v2 v3:Value}{g:CF}{cs:Array Value}(h:RFn w B v1 v2 v3 g)(hb:Blk w b3 2 cs)(hne:v3.ownBlock≠some b3)(ht:Tch w w' (fun q=>q=b3)):RFn w' B v1 v2 v3 g:=by
 have h1:GR w B (.agg #[v1,v2,v3],g):=⟨v1,v2,v3,rfl,h⟩;obtain⟨a,b,c,e,h2⟩:=h1.off ht fun q hq=>by subst hq;exact⟨_,cs,hb,by decide,fun _=>hne⟩
 injection e with e
 injection e with e
 injection e with e1 e
 injection e with e2 e
 injection e with e3 e
 subst e1 e2 e3;exact h2
def cbv:Value→Option Nat
 | .agg #[_,_,c]=>c.ownBlock
 |_=>none
theorem cblk_is (p:JT):cblk p=cbv p.1:=by
 unfold cblk cbv;rfl
theorem pw_fst {V U:List JT}(h:U.map (·.1)=V.map (·.1))(hp:V.Pairwise fun p q=>cblk p≠cblk q):U.Pairwise fun p q=>cblk p≠cblk q:=by
 have h1:(V.map (·.1)).Pairwise fun a b=>cbv a≠cbv b:=by
  rw[List.pairwise_map];exact hp.imp fun {a b} hab=>by rw[← cblk_is,← cblk_is];exact hab
 rw[← h,List.pairwise_map]at h1;exact h1.imp fun {a b} hab=>by rw[cblk_is,cblk_is];exact hab
theorem jc_fst {V U:List JT}(h:U.map (·.1)=V.map (·.1)):jcells U=jcells V:=by
 have e:∀L:List JT,jcells L=(L.map (·.1)).flatMap fun v=>match v with | .agg cs=>cs.toList | _ => []:=fun L=>by
  unfold jcells;rw[List.flatMap_map];rfl
 rw[e,e,h]
theorem updI_all {K:Int}{g:CF}{l:List CF}{n:Nat}(hn:l.length≤n):updI K g l n=l.map (updC K g):=by
 unfold updI;rw[List.take_of_length_le hn,List.drop_of_length_le hn,List.append_nil]
theorem hasS_none {l:List CF}{s:List Int}(h:hasS l s=false):∀y∈l,y.scope≠s:=fun y hy e=>by
 have h1:hasS l s=true:=by unfold hasS;rw[List.any_eq_true];exact⟨y,hy,by simp[e]⟩
 rw[h]at h1
 cases h1
theorem RFn.off52 {w w':World}{B gb:Nat}{v1 v2 v3:Value}{g:CF}{cs:Array Value}(h:RFn w B v1 v2 v3 g)(hb:Blk w gb 52 cs)(ht:Tch w w' (fun q=>q=gb)):RFn w' B v1 v2 v3 g:=by
 have h1:GR w B (.agg #[v1,v2,v3],g):=⟨v1,v2,v3,rfl,h⟩;obtain⟨a,b,c,e,h2⟩:=h1.off ht fun q hq=>by subst hq;exact⟨_,cs,hb,by decide,fun h=>by cases h⟩
 injection e with e
 injection e with e
 injection e with e1 e
 injection e with e2 e
 injection e with e3 e
 subst e1 e2 e3;exact h2
set_option maxRecDepth 1000000 in
set_option maxHeartbeats 16000000 in
theorem rcanon_any {w:World}{B g:Nat}{f:Fil}(h:QFileV w B g f)(hok:OkFile f) :
 Calls Tryz.prog 17 #[.pointer (some ⟨g,0,none⟩)] w fun e w'=>RCanonR w f e w':=by
 obtain⟨iR,r0,r1,r2,r3⟩:=info_parts infoRF;obtain⟨vz,vf,U,hU,hfb,⟨⟨ZA,zc,rfl⟩,hzo⟩,⟨GA,gc,rfl⟩,hfo,hfv⟩:=h;have hUl:U.length=f.funs.length:=by rw[← hU];simp
 obtain⟨n,hn⟩:∃n,U.length=n:=⟨_,rfl⟩;obtain⟨nz,hnz⟩:∃nz,f.sizes.length=nz:=⟨_,rfl⟩;have hn256:n≤256:=by have:=hok.n;omega
 have hz64:nz≤64:=by have:=hok.s2;omega
 rw[hn]at hfb hfo;rw[hnz]at hfb hzo;obtain⟨x0,x1,x2,x3,-⟩:=Blk.four (t:=49) hfb;have HU:=Hd hU;have HFB:=Hd hfb;have HFO:=Hd hfo;have HFV:=Hd hfv;have HZO:=Hd hzo;have HOK:=Hd hok;have HN:=Hd hn;have HNZ:=Hd hnz;have kk1:=hok.k1;have kk2:=hok.k2;clear hU hfb hzo hfo hfv hok hn hnz x0 x1 x2
 go_enter Tryz.func17,Tryz.ntmps17
 go_wp2_with fail;clear x3
 go_loopw [3,23] (fun lv jv wr => ∃ (j m c:Nat) (A:Option Addr) (V:List JT),jv = .int .i64 j∧j≤n∧m≤j∧lv = .slice A m c∧Hid (V.length=m)∧Hid (V.map (·.2)=joined f.sizes f.k (f.funs.take j))∧Hid (wr.ownsRow w.heap.size 52 3 (.slice A m c) m (jcells V))∧Hid (∀p∈V,GR wr w.heap.size p)∧Hid (V.Pairwise fun p q=>cblk p≠cblk q)∧Hid (Below w.heap.size w wr)) (fun _ jv _=>n-(intOf jv).toNat)
 case atStart=>exact⟨0,0,0,none,[],rfl,Nat.zero_le _,Nat.le_refl _,rfl,rfl,rfl,World.ownsRow_nil _ _ _ _,(fun p hp=>by cases hp),List.Pairwise.nil,Below.refl _ _⟩
 case round =>
  obtain⟨j,m,c,A,V,rfl,hj,hmj,rfl,HVL,HMAP,HROW,HGR,HAP,HB⟩:=hrel;obtain⟨wb,rfl⟩:∃wb,wb=wr:=⟨_,rfl⟩;by_cases hlt:j<n
  ·obtain⟨p,hp⟩:∃p,U[j]?=some p:=⟨_,List.getElem?_eq_getElem (by rw[HN.out];exact hlt)⟩
   have ho:=own_under HFO.out HB.out;obtain⟨q4,rfl,-,-⟩:=own_some ho (by omega);have hpm:=List.mem_of_getElem? hp;have hfn:=(HFV.out p hpm).below HB.out;obtain⟨⟨v1,v2,o,v4⟩,x⟩:=p;obtain⟨e0,e1,e2,e3⟩:=qc_at hp;dsimp only at hfn e0 e1 e2 e3;have hxf:f.funs[j]?=some x:=by rw[← HU.out,List.getElem?_map,hp];rfl
   have hxm:x∈f.funs:=List.mem_of_getElem? hxf;obtain⟨rfl,⟨⟨S1,d1,rfl⟩,-⟩,⟨⟨S2,d2,rfl⟩,-⟩,hl4⟩:=id hfn;obtain⟨L4,hL4,⟨S4',d4,rfl⟩,-,-⟩:=hl4;have c40:=(ho.cellAt (j*4) (by omega)).trans e0;have c41:=(ho.cellAt (j*4+1) (by omega)).trans e1;have c42:=(ho.cellAt (j*4+2) (by omega)).trans e2;have c43:=(ho.cellAt (j*4+3) (by omega)).trans e3;have i0':(0:Int)≤(j:Int):=Int.natCast_nonneg _;have i1':(j:Int)<(n:Int):=by omega
   obtain⟨wy,hwy⟩:∃wy,wb.alloc (.cells #[.slice S1 x.scope.length d1,.slice S2 x.sizes.length d2,.int .i64 x.other,.slice S4' L4.length d4] 70)=wy:=⟨_,rfl⟩;have hby:Below wb.heap.size wb wy:=by rw[← hwy];exact bone wb _
   obtain⟨xb,hxb⟩:∃xb,wb.heap.size=xb:=⟨_,rfl⟩;have hyb:Blk wy xb 70 #[.slice S1 x.scope.length d1,.slice S2 x.sizes.length d2,.int .i64 x.other,.slice S4' L4.length d4]:=by rw[← hwy,← hxb];exact Blk.new _ _ _
   obtain⟨z0,z1,z2,z3⟩:=blk4 hyb;have hbb:=bto HB.out hby;obtain⟨hokx,hfit,hgrx⟩:=HOK.out.fs x hxm;have hall:∀W,Below wb.heap.size wb W→Calls Tryz.prog 50 #[.agg #[.slice S1 x.scope.length d1,.slice S2 x.sizes.length d2,.int .i64 x.other,.slice S4' L4.length d4],.slice ZA nz zc,.int .i64 f.k] W fun e w'=>RAllR W f.sizes f.k x e w':=fun W hW=>rall_any (w:=W) (hfn.below hW) (zs:=f.sizes) ZA nz zc (Reads.of_own (own_under HZO.out (bto HB.out hW))) hokx hfit hgrx (by rw[HNZ.out];exact hz64)
   obtain⟨G,hG⟩:∃G,turnF f.sizes f.k x=G:=⟨_,rfl⟩;have HGG:=Hd hG;obtain⟨-,y1,y2,-,-⟩:=Blk.four (t:=49) (HFB.out.under hbb);have HBB:=Hd hbb;have HXF:=Hd hxf;have HALL:=Hd hall;have HYB:=Hd hyb;have HBY:=Hd hby;clear hp ho hpm hfn e0 e1 e2 e3 hxf hxm hL4 hbb hokx hfit hgrx hall hyb hby hG;go_upto_region 5 with fail;clear c40 c41 c42 c43
   try rw[hxb,hwy]
   clear hwy
   go_cut [6] from 27 to 36 (fun gv wz => ∃ (gb:Nat) (A1 A2 A3:Option Addr) (c1 c2 c3:Nat),gv = .pointer (some ⟨gb,0,none⟩)∧Hid (Blk wz gb 52 #[.slice A1 G.scope.length c1,.slice A2 G.sizes.length c2,.slice A3 G.C.length c3])∧Hid (RFn wz wb.heap.size (.slice A1 G.scope.length c1) (.slice A2 G.sizes.length c2) (.slice A3 G.C.length c3) G)∧Hid (Below wb.heap.size wb wz)∧Hid (wb.heap.size≤gb))
   case first =>
    refine wp_region_held_drew (S:=fun W=>W.cell? ⟨xb,0,none⟩=some (.slice S1 x.scope.length d1)∧W.cell? ⟨xb,1,none⟩=some (.slice S2 x.sizes.length d2)∧W.cell? ⟨xb,2,none⟩=some (.int .i64 x.other)∧W.cell? ⟨xb,3,none⟩=some (.slice S4' L4.length d4)∧W.cell? ⟨g,1,none⟩=some (.int .i64 f.k)∧W.cell? ⟨g,2,none⟩=some (.slice ZA nz zc)) (by kernel_rfl) ⟨z0,z1,z2,z3,y1,y2⟩ (fun hHeld=>?_);refine takes [0,1,2,3,4,5,6,7,8] hHeld (by kernel_rfl) (fun _ _ _ _ _ h=>h) ?_
    iterate 9
     conv=>whnf
     refine⟨?_,.inl ⟨by kernel_rfl,fun w hSw=>?_⟩,?_⟩
     rotate_left
     ·(try dsimp only at hSw);go_simp;try with_reducible rfl
     try simp only[Act.put,ya,yb,yc]
    refine Yt.nil ?_;have HK:Hid (∀W,Below wy.heap.size wy W→W.cell? ⟨xb,0,none⟩=some (.slice S1 x.scope.length d1)∧W.cell? ⟨xb,1,none⟩=some (.slice S2 x.sizes.length d2)∧W.cell? ⟨xb,2,none⟩=some (.int .i64 x.other)∧W.cell? ⟨xb,3,none⟩=some (.slice S4' L4.length d4)∧W.cell? ⟨g,1,none⟩=some (.int .i64 f.k)∧W.cell? ⟨g,2,none⟩=some (.slice ZA nz zc)):=fun W hW=>⟨some_below hW z0,some_below hW z1,some_below hW z2,some_below hW z3,some_below hW y1,some_below hW y2⟩
    clear z0 z1 z2 z3 y1 y2;refine wpAnyH_ready (rs := [9,10]) (by kernel_rfl) (by simp) ?_;refine AllReadyH.cons rfl (fun Kc hKc=>?_) (AllReadyH.cons rfl (fun Kc hKc=>?_) AllReadyH.nil)
    ·skip
     go_simp
     with_reducible refine (HALL.out wy.drew HBY.out.drew).mono ?_
     rintro e w5 ⟨v1,v2,v3,rfl,hrf,hb5⟩;dsimp only;rw[HGG.out]at hrf;obtain⟨⟨⟨A1,c1,rfl⟩,k1⟩,⟨⟨A2,c2,rfl⟩,k2⟩,⟨A3,c3,rfl⟩,k3⟩:=id hrf;have hb5':Below wy.heap.size wy w5:=⟨hb5.os,hb5.tape,hb5.output,hb5.size,hb5.block⟩;have HB5:=Hd hb5';have HRF:=Hd hrf;refine hKc.out _ _ (HK.out _ hb5') (fun hH=>?_);clear hKc Kc hb5 hb5' hrf k1 k2 k3
     try simp only[Act.put,ya,yb,yc]
     refine wpAnyH_ready (rs := [10]) (by kernel_rfl) (by simp) ?_;refine AllReadyH.cons rfl (fun Kc hKc=>?_) AllReadyH.nil;go_simp;obtain⟨gb,hgb⟩:∃gb,w5.heap.size=gb:=⟨_,rfl⟩;obtain⟨w6,hw6⟩:∃w6,w5.alloc (.cells #[.slice none 0 0,.slice none 0 0,.slice none 0 0] 52)=w6:=⟨_,rfl⟩;have hb6:Below w5.heap.size w5 w6:=by rw[← hw6];exact bone w5 _
     have hz6:Blk w6 gb 52 #[.slice none 0 0,.slice none 0 0,.slice none 0 0]:=by rw[← hw6,← hgb];exact Blk.new _ _ _
     have HB6:=Hd (bto HB5.out hb6);have HZ:=Hd hz6;have HGY:Hid (wy.heap.size≤gb):=by unfold Hid;rw[← hgb];exact HB5.out.size
     have HR6:=Hd ((HRF.out.base (B':=wb.heap.size) HBY.out.size).under hb6);rw[hgb,hw6];refine hKc.out _ _ (HK.out _ HB6.out) (fun hH6=>?_);clear hKc Kc hgb hw6 hb6 hz6
     try simp only[Act.put,ya,yb,yc]
     refine wpAnyH_ready (rs := [11]) (by kernel_rfl) (by simp) ?_;refine AllReadyH.cons rfl (fun Kc hKc=>?_) AllReadyH.nil;obtain⟨t0,t1,t2,tf0,tf1,tf2⟩:=Blk.tri (t:=52) HZ.out;go_simp;obtain⟨w7,hw7⟩:∃w7,((w6.setCell ⟨gb,0,none⟩ (.slice A1 G.scope.length c1)).setCell ⟨gb,1,none⟩ (.slice A2 G.sizes.length c2)).setCell ⟨gb,2,none⟩ (.slice A3 G.C.length c3)=w7:=⟨_,rfl⟩;have hb7:Below wy.heap.size wy w7:=by rw[← hw7];exact ((HB6.out.setCell (p:=⟨gb,0,none⟩) HGY.out _).setCell (p:=⟨gb,1,none⟩) HGY.out _).setCell (p:=⟨gb,2,none⟩) HGY.out _
     have hz7:Blk w7 gb 52 #[.slice A1 G.scope.length c1,.slice A2 G.sizes.length c2,.slice A3 G.C.length c3]:=by rw[← hw7];exact ((HZ.out.set_ 0 _).set_ 1 _).set_ 2 _
     have ht7:Tch w6 w7 (fun q=>q=gb):=by rw[← hw7];exact Tch.put (S:=fun q=>q=gb) (Tch.put (S:=fun q=>q=gb) (Tch.put (S:=fun q=>q=gb) (Tch.refl w6 _) (p:=⟨gb,0,none⟩) _ rfl) (p:=⟨gb,1,none⟩) _ rfl) (p:=⟨gb,2,none⟩) _ rfl
     have hr7:=HR6.out.off52 HZ.out ht7;have hbz:=bto HBY.out hb7;have hgz:wb.heap.size≤gb:=Nat.le_trans HBY.out.size HGY.out;rw[hw7];refine hKc.out _ _ (HK.out _ hb7) (fun _=>?_);clear hKc Kc t0 t1 t2 tf0 tf1 tf2 hb7 ht7 hw7;have HZ7:=Hd hz7;have HR7:=Hd hr7;have HBZ:=Hd hbz;clear hz7 hr7 hbz;refine wpAnyH_done (by kernel_rfl) ?_ _;go_simp
     try go_wp2_with fail
     go_meet
     case rel=>exact⟨gb,A1,A2,A3,c1,c2,c3,rfl,HZ7,HR7,HBZ,hgz⟩
    ·skip
     go_simp;obtain⟨gb,hgb⟩:∃gb,wy.heap.size=gb:=⟨_,rfl⟩;obtain⟨w5,hw5⟩:∃w5,(wy.alloc (.cells #[.slice none 0 0,.slice none 0 0,.slice none 0 0] 52)).drew=w5:=⟨_,rfl⟩;have hb5:Below wy.heap.size wy w5:=by rw[← hw5];exact (bone wy _).drew
     have hz5:Blk w5 gb 52 #[.slice none 0 0,.slice none 0 0,.slice none 0 0]:=by rw[← hw5,← hgb];exact Blk.new _ _ _
     have HB5:=Hd hb5;have HZ5:=Hd hz5;have HGY:Hid (wy.heap.size≤gb):=by unfold Hid;rw[← hgb];exact Nat.le_refl _
     rw[hgb,hw5];refine hKc.out _ _ (HK.out _ HB5.out) (fun hH5=>?_);clear hKc Kc hgb hw5 hb5 hz5
     try simp only[Act.put,ya,yb,yc]
     refine wpAnyH_ready (rs := [9]) (by kernel_rfl) (by simp) ?_;refine AllReadyH.cons rfl (fun Kc hKc=>?_) AllReadyH.nil;go_simp
     with_reducible refine (HALL.out w5 (bto HBY.out HB5.out)).mono ?_
     rintro e w6 ⟨v1,v2,v3,rfl,hrf,hb6⟩;dsimp only;rw[HGG.out]at hrf;obtain⟨⟨⟨A1,c1,rfl⟩,k1⟩,⟨⟨A2,c2,rfl⟩,k2⟩,⟨A3,c3,rfl⟩,k3⟩:=id hrf;have HB6:=Hd (bto HB5.out hb6);have HZ:=Hd (HZ5.out.under hb6);have HR6:=Hd (hrf.base (B':=wb.heap.size) (Nat.le_trans HBY.out.size HB5.out.size));refine hKc.out _ _ (HK.out _ HB6.out) (fun hH=>?_);clear hKc Kc hb6 hrf k1 k2 k3
     try simp only[Act.put,ya,yb,yc]
     refine wpAnyH_ready (rs := [11]) (by kernel_rfl) (by simp) ?_;refine AllReadyH.cons rfl (fun Kc hKc=>?_) AllReadyH.nil;obtain⟨t0,t1,t2,tf0,tf1,tf2⟩:=Blk.tri (t:=52) HZ.out;go_simp;obtain⟨w7,hw7⟩:∃w7,((w6.setCell ⟨gb,0,none⟩ (.slice A1 G.scope.length c1)).setCell ⟨gb,1,none⟩ (.slice A2 G.sizes.length c2)).setCell ⟨gb,2,none⟩ (.slice A3 G.C.length c3)=w7:=⟨_,rfl⟩;have hb7:Below wy.heap.size wy w7:=by rw[← hw7];exact ((HB6.out.setCell (p:=⟨gb,0,none⟩) HGY.out _).setCell (p:=⟨gb,1,none⟩) HGY.out _).setCell (p:=⟨gb,2,none⟩) HGY.out _
     have hz7:Blk w7 gb 52 #[.slice A1 G.scope.length c1,.slice A2 G.sizes.length c2,.slice A3 G.C.length c3]:=by rw[← hw7];exact ((HZ.out.set_ 0 _).set_ 1 _).set_ 2 _
     have ht7:Tch w6 w7 (fun q=>q=gb):=by rw[← hw7];exact Tch.put (S:=fun q=>q=gb) (Tch.put (S:=fun q=>q=gb) (Tch.put (S:=fun q=>q=gb) (Tch.refl w6 _) (p:=⟨gb,0,none⟩) _ rfl) (p:=⟨gb,1,none⟩) _ rfl) (p:=⟨gb,2,none⟩) _ rfl
     have hr7:=HR6.out.off52 HZ.out ht7;have hbz:=bto HBY.out hb7;have hgz:wb.heap.size≤gb:=Nat.le_trans HBY.out.size HGY.out;rw[hw7];refine hKc.out _ _ (HK.out _ hb7) (fun _=>?_);clear hKc Kc t0 t1 t2 tf0 tf1 tf2 hb7 ht7 hw7;have HZ7:=Hd hz7;have HR7:=Hd hr7;have HBZ:=Hd hbz;clear hz7 hr7 hbz;refine wpAnyH_done (by kernel_rfl) ?_ _;go_simp
     try go_wp2_with fail
     go_meet
     case rel=>exact⟨gb,A1,A2,A3,c1,c2,c3,rfl,HZ7,HR7,HBZ,hgz⟩
   case rest =>
    obtain⟨gb,A1,A2,A3,c1,c2,c3,rfl,HGB,HRF,HBZ,HGL⟩:=hcut;obtain⟨wz,rfl⟩:∃wz,wz=wc:=⟨_,rfl⟩;obtain⟨l0,hl0⟩:∃l0,V.map (·.2)=l0:=⟨_,rfl⟩;have hmp:=HMAP.out;rw[hl0]at hmp;have hgf:GoodFs f.sizes f.k (f.funs.take j):=fun y hy=>HOK.out.fs y (List.mem_of_mem_take hy)
    have HON:Hid (OnceC l0):=by unfold Hid;rw[hmp];exact joined_once _ _ _
    have HGD:Hid (∀y∈l0,GoodC f.sizes f.k y):=by unfold Hid;rw[hmp];exact joined_good hgf
    have HGG2:Hid (GoodC f.sizes f.k G):=by
     obtain⟨h1,h2,h3⟩:=HOK.out.fs x (List.mem_of_getElem? HXF.out);unfold Hid;rw[← HGG.out];exact turn_good h1 h2 h3
    have HADD:Hid (joined f.sizes f.k (f.funs.take (j+1))=addC f.k l0 G):=by unfold Hid;rw[joined_take HXF.out,← hmp,HGG.out]
    have HL0:=Hd hl0;have hl0l:l0.length=m:=by rw[← hl0,List.length_map,HVL.out]
    have HLL:=Hd hl0l;have H3V:=Hd (GR.is3 HGR.out);have hbw:=bto HB.out HBZ.out;have HG0:Hid (∀p∈V,GR wz w.heap.size p):=fun p hp=>(HGR.out p hp).under HBZ.out
    have HR0:=Hd (own_under HROW.out HBZ.out);have HBW:=Hd hbw;clear hl0 hmp hgf hl0l hbw;go_wp2_with fail
    go_loopw [7,39] (fun bv iv wr => ∃ (i:Nat) (V':List JT),iv = .int .i64 i∧i≤m∧bv = .bool (hasS (l0.take i) G.scope)∧Hid (V'.map (·.1)=V.map (·.1))∧Hid (V'.map (·.2)=updI f.k G l0 i)∧Hid (∀p∈V',GR wr w.heap.size p)∧Hid (wr.ownsRow w.heap.size 52 3 (.slice A m c) m (jcells V))∧Hid (Blk wr gb 52 #[.slice A1 G.scope.length c1,.slice A2 G.sizes.length c2,.slice A3 G.C.length c3])∧Hid (RFn wr wb.heap.size (.slice A1 G.scope.length c1) (.slice A2 G.sizes.length c2) (.slice A3 G.C.length c3) G)∧Hid (Below w.heap.size w wr)) (fun _ iv _=>m-(intOf iv).toNat)
    case atStart=>exact⟨0,V,rfl,Nat.zero_le _,rfl,rfl,by unfold Hid;rw[HL0.out];rfl,HG0.out,HR0.out,HGB.out,HRF.out,HBW.out⟩
    case round =>
     obtain⟨i,V',rfl,hi,rfl,HV1,HV2,HGI,HRI,HGBI,HRFI,HBI⟩:=hrel;obtain⟨wi,rfl⟩:∃wi,wi=wr:=⟨_,rfl⟩;by_cases hli:i<m
     ·have hVl:V'.length=m:=by have:=congrArg List.length HV1.out;rw[List.length_map,List.length_map,HVL.out]at this;exact this
      obtain⟨h,hh⟩:∃h,V'[i]?=some h:=⟨_,List.getElem?_eq_getElem (by omega)⟩;obtain⟨p0,hp0⟩:∃p,V[i]?=some p:=⟨_,List.getElem?_eq_getElem (by rw[HVL.out];omega)⟩
      have e01:p0.1=h.1:=by
       have:=congrArg (fun l:List Value=>l[i]?) HV1.out;simp only[List.getElem?_map,hh,hp0]at this;injection this with this
       exact this.symm
      obtain⟨y0,hy0⟩:∃y,l0[i]?=some y:=⟨_,List.getElem?_eq_getElem (by rw[HLL.out];omega)⟩
      have e02:h.2=y0:=by
       have h1:=congrArg (fun l:List CF=>l[i]?) HV2.out;simp only[List.getElem?_map,hh]at h1;rw[updI_at hy0]at h1;injection h1
      obtain⟨u1,u2,u3,eh,⟨⟨B1,e1,rfl⟩,ho1⟩,⟨⟨B2,e2,rfl⟩,ho2⟩,⟨B3,e3,rfl⟩,ho3⟩:=HGI.out h (List.mem_of_getElem? hh);obtain⟨qs,rfl,-,-⟩:=own_some HRI.out (by omega);obtain⟨d0,d1,d2⟩:=row3_cells HRI.out HVL.out H3V.out hp0 (e01.trans eh);obtain⟨g0,g1,g2⟩:=blk3 HGBI.out;have i0':(0:Int)≤(i:Int):=Int.natCast_nonneg _;have i1':(i:Int)<(m:Int):=by omega
      have hgs6:G.scope.length≤6:=by have h1:=HGG2.out.szs.1;rw[HGG2.out.sizes,szOf_len]at h1;exact h1
      have hys6:y0.scope.length≤6:=by have hgd:=HGD.out y0 (List.mem_of_getElem? hy0);have h1:=hgd.szs.1;rw[hgd.sizes,szOf_len]at h1;exact h1
      rw[e02]at ho1 ho2 ho3 d0 d1 d2 eh;have hsame:=same3_any B1 A1 y0.scope.length G.scope.length e1 c1 y0.scope G.scope wi.drew (by omega) (by omega) (Reads.of_own ho1.drew) (Reads.of_own HRFI.out.1.2.drew);have HSTEP:=Hd (hasS_step G.scope hy0);have HUPD:=Hd (updI_step (K:=f.k) (g:=G) hy0);have HH:=Hd hh;have HY0:=Hd hy0;have HP0:=Hd hp0;have HEH:=Hd eh;have HE01:=Hd e01;have HE02:=Hd e02;have HO3:=Hd ho3;have HS:=Hd hsame;have HVLI:=Hd hVl;obtain⟨s1,hs1⟩:∃s,y0.scope.length=s:=⟨_,rfl⟩;have HS1:=Hd hs1;clear hh hy0 hp0 e01 e02 eh ho1 ho2 ho3 hsame hVl d1 g1;obtain⟨fb,hfb⟩:∃fb,hasS (l0.take i) G.scope=fb:=⟨_,rfl⟩;have HFBB:=Hd hfb;rw[hfb];rw[hs1]at d0;clear hfb hs1;go_upto_region 10 with fail;refine wp_region_held_drew (S:=fun W=>W.cell? ⟨qs,i*3,none⟩=some (.slice B1 s1 e1)∧W.cell? ⟨gb,0,none⟩=some (.slice A1 G.scope.length c1)) (by kernel_rfl) ⟨d0,g0⟩ (fun hHeld=>?_);refine takes [0,1,2,3,4,5,6] hHeld (by kernel_rfl) (fun _ _ _ _ _ h=>h) ?_
      iterate 7
       conv=>whnf
       refine⟨?_,.inl ⟨by kernel_rfl,fun w hSw=>?_⟩,?_⟩
       rotate_left
       ·(try dsimp only at hSw);go_simp;try with_reducible rfl
       try simp only[Act.put,ya,yb,yc]
      refine Yt.nil ?_;refine wpAnyH_ready (rs := [7]) (by kernel_rfl) (by simp) ?_;refine AllReadyH.cons rfl (fun Kc hKc=>?_) AllReadyH.nil;have hsame:=HS.out;rw[HS1.out]at hsame;go_simp
      with_reducible refine hsame.mono ?_
      rintro e wk ⟨rfl,hbk⟩;dsimp only;have hbk':Below wi.heap.size wi wk:=⟨hbk.os,hbk.tape,hbk.output,hbk.size,hbk.block⟩;have HBK:=Hd hbk';refine hKc.out _ _ ⟨some_below hbk' d0,some_below hbk' g0⟩ (fun hH=>?_);clear hKc Kc hbk hbk' hsame d0 g0
      try simp only[Act.put,ya,yb,yc]
      refine wpAnyH_done (by kernel_rfl) ?_ _;go_simp;by_cases hsc:y0.scope=G.scope
      ·rw[show eqB y0.scope G.scope=true from decide_eq_true hsc]
       have g2k:wk.cell? ⟨gb,2,none⟩=some (.slice A3 G.C.length c3):=some_below HBK.out g2;have HSC:=Hd hsc;clear g2 hsc d2;have hgy:=HGD.out y0 (List.mem_of_getElem? HY0.out);have hsz:y0.sizes=G.sizes:=by rw[hgy.sizes,HGG2.out.sizes,HSC.out]
       obtain⟨n3,hn3⟩:∃n3,G.C.length=n3:=⟨_,rfl⟩;obtain⟨fa,ea,ba⟩:=hgy.tab;obtain⟨fg,eg,bg'⟩:=HGG2.out.tab;have hyl:y0.C.length=n3:=by rw[← hn3,ea,eg,hsz];unfold tabF;rw[List.length_map,List.length_map]
       have hn3b:n3≤4096:=by have h1:=tabF_len HGG2.out.szs fg;have h2:=HGG2.out.prod;rw[← eg,hn3]at h1;omega
       have hn0:0<n3:=by rw[← hn3];exact List.length_pos_iff.2 (tab_ne HGG2.out)
       have HYI:Hid (∀v∈y0.C,0≤v∧v≤f.k):=fun v hv=>by have:=tab_in hgy v hv;unfold inB at this;rw[decide_eq_true_eq]at this;omega
       have HGI2:Hid (∀v∈G.C,0≤v∧v≤f.k):=fun v hv=>by have:=tab_in HGG2.out v hv;unfold inB at this;rw[decide_eq_true_eq]at this;omega
       have ho3:=own_under HO3.out HBK.out;rw[hyl]at ho3;obtain⟨b3,rfl,hb30,-⟩:=own_some ho3 hn0;have hrfk:=HRFI.out.under HBK.out;have hog:=hrfk.2.2.2;rw[hn3]at hog g2k;obtain⟨bg,rfl,hbg0,-⟩:=own_some hog hn0
       have hb3w:b3<wb.heap.size:=by
        obtain⟨u1',u2',u3',eu,-,-,hr3⟩:=HGR.out p0 (List.mem_of_getElem? HP0.out);rw[HE01.out,HEH.out]at eu;injection eu with eu
        injection eu with eu
        injection eu with _ eu
        injection eu with _ eu
        injection eu with eu _
        subst eu;exact (own_in hr3.2 (q:=b3) rfl).2
       have hbg3:¬ bg=b3:=by omega
       have hgb3:¬ gb=b3:=by have:=HGL.out;omega
       have hg3:¬ g=b3:=by have:=HFB.out.lt;omega
       have hrowk:=own_under HRI.out HBK.out;obtain⟨csr,hbr⟩:=own_is hrowk (q:=qs) rfl;obtain⟨cs3,hb3b⟩:=own_is ho3 (q:=b3) rfl;have hq3:¬ qs=b3:=fun e=>Blk.ne_ hbr hb3b (by decide) e
       have hbwk:=bto HBI.out HBK.out;obtain⟨SL,hSL⟩:∃SL,sumL f.k y0.C G.C=SL:=⟨_,rfl⟩;have hSLl:SL.length=n3:=by rw[← hSL];unfold sumL;rw[List.length_zipWith,hyl,hn3];omega
       have HN3:=Hd hn3;have HYL:=Hd hyl;have HOG:=Hd hog;have HRK:=Hd hrowk;have HFK:=Hd hrfk;have HGK:=Hd (HGBI.out.under HBK.out);have HFBK:=Hd (HFB.out.under hbwk);have HBWK:=Hd hbwk;have HNE:Hid (¬ bg=b3∧¬ gb=b3∧¬ g=b3∧¬ qs=b3):=⟨hbg3,hgb3,hg3,hq3⟩;have HSL:=Hd hSL;have HSLL:=Hd hSLl;have HB3B:=Hd hb3b;have HB30:Hid (w.heap.size≤b3):=hb30;have HO3K:=Hd ho3
       try rw[hn3]
       clear hgy hsz hn3 ea ba eg bg' fa fg hyl ho3 hrfk hog hb30 hbg0 hb3w hbg3 hgb3 hg3 hrowk hbr hb3b hq3 hbwk hSL hSLl;go_wp2_with fail;clear g2k
       go_loopw [53] (fun qv wr => ∃q:Nat,qv = .int .i64 q∧q≤n3∧Hid (wr.ownsRow w.heap.size 2 1 (.slice (some ⟨b3,0,none⟩) n3 e3) n3 (nums (SL.take q++y0.C.drop q)))∧Hid (Tch wk wr (fun t=>t=b3))) (fun qv _=>n3-(intOf qv).toNat)
       case atStart=>exact⟨0,rfl,Nat.zero_le _,by unfold Hid;simpa using HO3K.out,Tch.refl _ _⟩
       case round =>
        obtain⟨q,rfl,hq,HOX,HTX⟩:=hrel;obtain⟨wx,rfl⟩:∃wx,wx=wr:=⟨_,rfl⟩;obtain⟨n1,n2,n3',n4⟩:=HNE.out;by_cases hlq:q<n3
        ·obtain⟨av,hav⟩:∃a,y0.C[q]?=some a:=⟨_,List.getElem?_eq_getElem (by have:=HYL.out;omega)⟩
         obtain⟨bv,hbv⟩:∃b,G.C[q]?=some b:=⟨_,List.getElem?_eq_getElem (by have:=HN3.out;omega)⟩;have hav2:=HYI.out av (List.mem_of_getElem? hav);have hbv2:=HGI2.out bv (List.mem_of_getElem? hbv)
         have hsum:SL[q]?=some (min (av+bv) f.k):=by
          rw[← HSL.out];unfold sumL;rw[List.getElem?_zipWith,hav,hbv]
         have hca:wx.cell? ⟨b3,q,none⟩=some (.int .i64 av):=(HOX.out.cellAt q (by omega)).trans (by unfold nums;rw[List.getElem?_map,part_at (by have:=HSLL.out;omega) hav];rfl);have hfa:=HOX.out.frozenAt q;have hox:=HTX.out.own HOG.out fun k hk e=>by have h2:some bg=some k:=hk;injection h2 with h2;exact n1 (h2.trans e)
         have hcb:wx.cell? ⟨bg,q,none⟩=some (.int .i64 bv):=(hox.cellAt q (by omega)).trans (by unfold nums;rw[List.getElem?_map,hbv];rfl);have hgx:=HTX.out.blk HGK.out n2;obtain⟨-,-,g2x⟩:=blk3 hgx;rw[HN3.out]at g2x;obtain⟨-,y1x,-,-,-⟩:=Blk.four (t:=49) (HTX.out.blk HFBK.out n3');obtain⟨-,-,d2x⟩:=row3_cells (HTX.out.own HRK.out fun k hk e=>by have h2:some qs=some k:=hk;injection h2 with h2;exact n4 (h2.trans e)) HVL.out H3V.out HP0.out (HE01.out.trans HEH.out);rw[HYL.out]at d2x;have q0:(0:Int)≤(q:Int):=Int.natCast_nonneg _;have q1:(q:Int)<(n3:Int):=by omega
         have HLQ:Hid (q<n3):=hlq;have hradd:=radd_any av bv f.k (by omega) (by omega) wx.drew;have HADDC:=Hd hradd;have HAV:=Hd hav;have HSUM:=Hd hsum;have hcad:wx.drew.cell? ⟨b3,q,none⟩=some (.int .i64 av):=hca;have hfad:wx.drew.frozen? ⟨b3,q,none⟩=false:=hfa;clear hav hbv hav2 hbv2 hsum hox hgx hradd hca hfa;go_upto_region 15 with fail;refine wp_region_held_drew (S:=fun W=>W.cell? ⟨qs,i*3+2,none⟩=some (.slice (some ⟨b3,0,none⟩) n3 e3)∧W.cell? ⟨gb,2,none⟩=some (.slice (some ⟨bg,0,none⟩) n3 c3)∧W.cell? ⟨bg,q,none⟩=some (.int .i64 bv)∧W.cell? ⟨g,1,none⟩=some (.int .i64 f.k)) (by kernel_rfl) ⟨d2x,g2x,hcb,y1x⟩ (fun hHeld=>?_);refine takes [0,1,2,3,4,5,6,7,8,9,10,11,12,14,15,16,17,18,19,20,21,22] hHeld (by kernel_rfl) (fun _ _ _ _ _ h=>h) ?_
         iterate 22
          conv=>whnf
          refine⟨?_,.inl ⟨by kernel_rfl,fun w hSw=>?_⟩,?_⟩
          rotate_left
          ·(try dsimp only at hSw);go_simp;try with_reducible rfl
          try simp only[Act.put,ya,yb,yc]
         refine Yt.nil ?_;refine wpAnyH_ready (rs := [13]) (by kernel_rfl) (by simp) ?_;refine AllReadyH.cons rfl (fun Kc hKc=>?_) AllReadyH.nil;go_simp;refine hKc.out _ _ hHeld (fun hH1=>?_);clear hKc Kc
         try simp only[Act.put,ya,yb,yc]
         refine wpAnyH_ready (rs := [23]) (by kernel_rfl) (by simp) ?_;refine AllReadyH.cons rfl (fun Kc hKc=>?_) AllReadyH.nil;go_simp
         with_reducible refine HADDC.out.mono ?_
         rintro e wy' ⟨rfl,rfl⟩;dsimp only;refine hKc.out _ _ hHeld (fun hH2=>?_);clear hKc Kc
         try simp only[Act.put,ya,yb,yc]
         refine takes [24] hHeld (by kernel_rfl) (fun _ _ _ _ _ h=>h) ?_
         iterate 1
          conv=>whnf
          refine⟨?_,.inl ⟨by kernel_rfl,fun w hSw=>?_⟩,?_⟩
          rotate_left
          ·(try dsimp only at hSw);go_simp;try with_reducible rfl
          try simp only[Act.put,ya,yb,yc]
         refine Yt.nil ?_;refine wpAnyH_ready (rs := [25]) (by kernel_rfl) (by simp) ?_;refine AllReadyH.cons rfl (fun Kc hKc=>?_) AllReadyH.nil;go_simp;refine hKc.out _ _ ⟨?_,?_,?_,?_⟩ (fun _=>?_)
         ·show (wx.setCell ⟨b3,q,none⟩ (.int .i64 (min (av+bv) f.k))).cell? ⟨qs,i*3+2,none⟩=_;rw[World.cell?_setCell_far _ _ _ _ (show b3≠qs from fun e=>n4 e.symm)];exact d2x
         ·show (wx.setCell ⟨b3,q,none⟩ (.int .i64 (min (av+bv) f.k))).cell? ⟨gb,2,none⟩=_;rw[World.cell?_setCell_far _ _ _ _ (show b3≠gb from fun e=>n2 e.symm)];exact g2x
         ·show (wx.setCell ⟨b3,q,none⟩ (.int .i64 (min (av+bv) f.k))).cell? ⟨bg,q,none⟩=_;rw[World.cell?_setCell_far _ _ _ _ (show b3≠bg from fun e=>n1 e.symm)];exact hcb
         ·show (wx.setCell ⟨b3,q,none⟩ (.int .i64 (min (av+bv) f.k))).cell? ⟨g,1,none⟩=_;rw[World.cell?_setCell_far _ _ _ _ (show b3≠g from fun e=>n3' e.symm)];exact y1x
         clear hKc Kc;refine wpAnyH_done (by kernel_rfl) ?_ _;go_simp
         try go_wp2_with fail
         go_roundw
         case measure=>have:=HLQ.out;simp[intOf];omega
         case rel =>
          refine⟨q+1,by go_num,(by have:=HLQ.out;omega),?_,(HTX.out.put (p:=⟨b3,q,none⟩) _ rfl).drew⟩;have h1:=(HOX.out.stored q (.int .i64 (min (av+bv) f.k))).1.drew
          have h2:(nums (SL.take q++y0.C.drop q)).set q (.int .i64 (min (av+bv) f.k))=nums (SL.take (q+1)++y0.C.drop (q+1)):=by
           unfold nums;rw[← part_step HSUM.out (by have:=HYL.out;omega),List.map_set]
          rw[h2]at h1;exact h1
        ·obtain rfl:n3=q:=by omega
         have hon:=HOX.out;rw[List.take_of_length_le (by have:=HSLL.out;omega),List.drop_of_length_le (by have:=HYL.out;omega),List.append_nil]at hon;have hup:updC f.k G y0=⟨y0.scope,y0.sizes,SL⟩:=by unfold updC;rw[if_pos HSC.out,HSL.out]
         have hcbh:cblk h=some b3:=by unfold cblk;rw[HEH.out];rfl
         have hph:cblk p0=some b3:=by rw[← hcbh];exact cblk_fst HE01.out
         have hN1:(V'.set i (h.1,updC f.k G y0)).map (·.1)=V.map (·.1):=by
          rw[List.map_set,← HV1.out];refine set_same ?_;rw[List.getElem?_map,HH.out];rfl
         have hN2:(V'.set i (h.1,updC f.k G y0)).map (·.2)=updI f.k G l0 (i+1):=by rw[List.map_set,HV2.out,HUPD.out]
         have hN3:hasS (l0.take (i+1)) G.scope=true:=by rw[HSTEP.out,HSC.out,decide_eq_true rfl,Bool.or_true]
         have hS:∀k,k=b3→∃t cs,Blk wk k t cs∧t≠3∧(t=2→True):=fun k hk=>by subst hk;exact⟨_,_,HB3B.out,by decide,fun _=>trivial⟩
         have hN4:∀r∈V'.set i (h.1,updC f.k G y0),GR wx w.heap.size r:=fun r hr=>by
          obtain⟨k,hk⟩:=List.getElem?_of_mem hr;rw[List.getElem?_set]at hk;by_cases hki:i=k
          ·rw[if_pos hki]at hk
           split at hk
           ·injection hk with hk
            subst hk;have hold:=(HGI.out h (List.mem_of_getElem? HH.out)).under HBK.out;obtain⟨w1',w2',w3',ew,k1,k2,-⟩:=hold;rw[HEH.out]at ew;injection ew with ew
            injection ew with ew
            injection ew with ew1 ew
            injection ew with ew2 ew
            subst ew1 ew2;rw[HE02.out]at k1 k2;refine⟨_,_,_,HEH.out,?_,?_,?_⟩
            ·show RowI wx w.heap.size _ (updC f.k G y0).scope
             rw[hup];exact⟨k1.1,HTX.out.own k1.2 fun t ht e=>by obtain⟨cs,hb⟩:=own_is k1.2 ht;exact Blk.ne_ hb HB3B.out (by decide) e⟩
            ·show RowI wx w.heap.size _ (updC f.k G y0).sizes
             rw[hup];exact⟨k2.1,HTX.out.own k2.2 fun t ht e=>by obtain⟨cs,hb⟩:=own_is k2.2 ht;exact Blk.ne_ hb HB3B.out (by decide) e⟩
            ·show Row64 wx w.heap.size _ (updC f.k G y0).C
             rw[hup];refine⟨⟨_,_,by rw[HYL.out,HSLL.out]⟩,?_⟩;show wx.ownsRow w.heap.size 2 1 _ SL.length (nums SL);rw[HYL.out,HSLL.out];exact hon
           ·cases hk
          ·rw[if_neg hki]at hk
           have hvk:=congrArg (fun l:List Value=>l[k]?) HV1.out;simp only[List.getElem?_map,hk]at hvk
           cases hvo:V[k]? with
           |none=>rw[hvo]at hvk;cases hvk
           | some pk =>
             rw[hvo]at hvk;injection hvk with hvk
             have hne:cblk r≠some b3:=by
              rw[cblk_fst hvk,← hph];exact ap_at HAP.out HP0.out hvo fun e=>hki e.symm
             exact ((HGI.out r (List.mem_of_getElem? hk)).under HBK.out).off HTX.out fun t ht=>by subst ht;exact⟨_,_,HB3B.out,by decide,fun _=>hne⟩
         have hN5:=HTX.out.own HRK.out fun k hk e=>by have h2:some qs=some k:=hk;injection h2 with h2;exact n4 (h2.trans e)
         have hN6:=HTX.out.blk HGK.out n2;have hN7:=HFK.out.off64 HB3B.out (fun e=>by have h2:some bg=some b3:=e;injection h2 with h2;exact n1 h2) HTX.out;have hN8:=HBWK.out.trans (HTX.out.below HBWK.out.size fun k hk e=>by have:=HB30.out;omega);have HN1:=Hd hN1;have HN2:=Hd hN2;have HN3B:=Hd hN3;have HN4:=Hd hN4;have HN5:=Hd hN5;have HN6:=Hd hN6;have HN7:=Hd hN7;have HN8:=Hd hN8;clear hon hup hcbh hph hN1 hN2 hN3 hS hN4 hN5 hN6 hN7 hN8;go_wp2_with fail;go_roundw
         case measure=>simp[intOf];omega
         case rel=>exact⟨i+1,V'.set i (h.1,updC f.k G y0),by go_num,by omega,by rw[HN3B.out],HN1,HN2,HN4,HN5,HN6,HN7,HN8⟩
      ·rw[show eqB y0.scope G.scope=false from decide_eq_false hsc]
       have HNB:Hid (hasS (l0.take (i+1)) G.scope=fb):=by unfold Hid;rw[HSTEP.out,HFBB.out,decide_eq_false hsc,Bool.or_false]
       have HNU:Hid (V'.map (·.2)=updI f.k G l0 (i+1)):=by
        unfold Hid;rw[HUPD.out,HV2.out];have e1:updC f.k G y0=y0:=by unfold updC;rw[if_neg hsc]
        rw[e1];exact (set_same (updI_at HY0.out)).symm
       clear hsc g2 d2;go_wp2_with fail;go_roundw
       case measure=>simp[intOf];omega
       case rel=>exact⟨i+1,V',by go_num,by omega,by rw[HNB.out],HV1,HNU,fun p hp=>(HGI.out p hp).under HBK.out,own_under HRI.out HBK.out,HGBI.out.under HBK.out,HRFI.out.under HBK.out,bto HBI.out HBK.out⟩
     ·obtain rfl:m=i:=by omega
      have hall:l0.take m=l0:=List.take_of_length_le (by rw[HLL.out];exact Nat.le_refl _);have hV2:V'.map (·.2)=l0.map (updC f.k G):=by rw[HV2.out,updI_all (by rw[HLL.out];exact Nat.le_refl _)]
      have hVl:V'.length=m:=by have:=congrArg List.length HV1.out;rw[List.length_map,List.length_map,HVL.out]at this;exact this
      have hadd:=HADD.out;rw[add_upd HON.out]at hadd;rw[hall];obtain⟨fb,hfb⟩:∃fb,hasS l0 G.scope=fb:=⟨_,rfl⟩;rw[hfb]at hadd;rw[hfb];have hrv:=HRI.out;rw[← jc_fst HV1.out]at hrv;have hap:=pw_fst HV1.out HAP.out
      cases fb with
      | true =>
        rw[if_pos rfl,← hV2]at hadd;have HNA:=Hd hadd;have HVLI:=Hd hVl;have HRV:=Hd hrv;have HPV:=Hd hap;clear hall hV2 hVl hadd hfb hrv hap;go_wp2_with fail;go_roundw
        case measure=>simp[intOf];omega
        case rel=>exact⟨j+1,m,c,A,V',by go_num,by omega,by omega,rfl,HVLI,HNA.out.symm,HRV,HGI,HPV,HBI⟩
      | false =>
        rw[if_neg (by simp)]at hadd;have hnone:l0.map (updC f.k G)=l0:=upd_none (hasS_none hfb);rw[hnone]at hV2;obtain⟨⟨⟨y1,y2,e1⟩,k1⟩,⟨⟨y3,y4,e2⟩,k2⟩,⟨y5,y6,e3⟩,k3⟩:=id HRFI.out
        have hbg:∃bg,A3=some ⟨bg,0,none⟩∧wb.heap.size≤bg:=by
         obtain⟨bg,e,h1,-⟩:=own_some k3 (List.length_pos_iff.2 (tab_ne HGG2.out));exact⟨bg,e,h1⟩
        obtain⟨bg,hA3,hbgw⟩:=hbg;obtain⟨g0,g1,g2⟩:=blk3 HGBI.out;obtain⟨wa,hwa⟩:∃wa,wi.alloc (.cells #[.slice A1 G.scope.length c1,.slice A2 G.sizes.length c2,.slice A3 G.C.length c3] 52)=wa:=⟨_,rfl⟩;have hba:Below wi.heap.size wi wa:=by rw[← hwa];exact bone wi _
        have hra:Reads wa wa.heap.size 3 (some ⟨wi.heap.size,0,none⟩) 1 [.slice A1 G.scope.length c1,.slice A2 G.sizes.length c2,.slice A3 G.C.length c3]:=by rw[← hwa];exact reads_3 (heap_alloc_new _ _)
        have hone:∀u ∈ [Value.slice A1 G.scope.length c1,.slice A2 G.sizes.length c2,.slice A3 G.C.length c3],u.oneCell'=true:=by simp[Value.oneCell']
        have hoa:=own_under hrv hba;have hsa:w.heap.size≤wa.heap.size:=Nat.le_trans HBI.out.size hba.size;have HWA:=Hd hwa;have HBA:=Hd hba;have HOA:=Hd hoa;have HV2N:=Hd hV2;have HNA:=Hd hadd;have HVLI:=Hd hVl;have HPV:=Hd hap;have HA3:=Hd hA3;have HBGW:=Hd hbgw;clear hall hfb hV2 hVl hadd hrv hap hnone k1 k2 k3 hwa hba hoa hA3 hbgw e1 e2 e3
        go_wp2_with (first
         |(at_builtin;rw[HWA.out];refine wpList_append_any _ rfl (.tmp 85) (.tmp 87) _ rfl w.heap.size 52 iR _ 3 72 Tryz.underlying44 r0 r1 r2 r3 rfl (by omega) (.slice A m c) m _ rfl HOA.out wa.heap.size (some ⟨wi.heap.size,0,none⟩) 1 1 _ rfl hra hone (by simp only[maxLen];omega) (by omega) hsa ?_;intro v9 w9 hown9 hg9 hat9;clear hat9;obtain⟨A9,c9,rfl⟩:=own_shape hown9;have HO9:=Hd hown9;have HG9:=Hd hg9;clear hown9 hg9 hra hone hsa)
         |fail)
        obtain⟨np,hn1,hn2⟩:∃np:JT,np.1 = .agg #[.slice A1 G.scope.length c1,.slice A2 G.sizes.length c2,.slice A3 G.C.length c3]∧np.2=G:=⟨(_,_),rfl,rfl⟩;have hT:Tch wi w9 (fun q=>some q=(Value.slice A m c).ownBlock):=(Tch.of_below HBA.out _).trans (Tch.of_grown HG9.out (S:=fun q=>some q=(Value.slice A m c).ownBlock) fun q _ hq=>hq) fun q hq e=>e
        have hS:∀q,some q=(Value.slice A m c).ownBlock→∃cs,Blk wi q 52 cs:=fun q hq=>own_is HRI.out hq.symm
        have hGR:∀r∈V' ++ [np],GR w9 w.heap.size r:=fun r hr=>by
         rcases List.mem_append.1 hr with hr | hr
         ·exact (HGI.out r hr).off hT fun q hq=>by obtain⟨cs,hb⟩:=hS q hq;exact⟨_,cs,hb,by decide,fun h=>by cases h⟩
         ·rw[List.mem_singleton.1 hr]
          have hg0:GR wi w.heap.size np:=⟨_,_,_,hn1,by rw[hn2];exact HRFI.out.base HB.out.size⟩;exact hg0.off hT fun q hq=>by obtain⟨cs,hb⟩:=hS q hq;exact⟨_,cs,hb,by decide,fun h=>by cases h⟩
        have hcn:cblk np=some bg:=by rw[cblk_is,hn1,HA3.out];rfl
        have hAPN:(V' ++ [np]).Pairwise fun p q=>cblk p≠cblk q:=by
         refine List.pairwise_append.2 ⟨HPV.out,List.pairwise_singleton _ _,fun a ha b hb=>?_⟩;rw[List.mem_singleton.1 hb,hcn];obtain⟨k,hk⟩:=List.getElem?_of_mem ha;have hvk:=congrArg (fun l:List Value=>l[k]?) HV1.out;simp only[List.getElem?_map,hk]at hvk
         cases hvo:V[k]? with
         |none=>rw[hvo]at hvk;cases hvk
         | some pk =>
           rw[hvo]at hvk;injection hvk with hvk
           rw[cblk_fst hvk];obtain⟨u1,u2,u3,eu,-,-,hr3⟩:=HGR.out pk (List.mem_of_getElem? hvo);intro e;unfold cblk at e;rw[eu]at e;have h1:=(own_in hr3.2 e).2;have h2:=HBGW.out;omega
        have hrow:w9.ownsRow w.heap.size 52 3 (.slice A9 (m+1) c9) (m+1) (jcells (V' ++ [np])):=by
         rw[jc_append,jc_one hn1];exact HO9.out
        have hlen:(V' ++ [np]).length=m+1:=by rw[List.length_append,HVLI.out];rfl
        have hmap:(V' ++ [np]).map (·.2)=joined f.sizes f.k (f.funs.take (j+1)):=by rw[List.map_append,HV2N.out,HNA.out,← hn2];rfl
        have hbel:Below w.heap.size w w9:=(bto HBI.out HBA.out).grown HG9.out (bto HBI.out HBA.out).size (fun q hq=>(own_in HRI.out hq).1);have H1:=Hd hGR;have H2:=Hd hAPN;have H3:=Hd hrow;have H4:=Hd hlen;have H5:=Hd hmap;have H6:=Hd hbel;clear hT hS hGR hcn hAPN hrow hlen hmap hbel;go_roundw
        case measure=>simp[intOf];omega
        case rel=>exact⟨j+1,m+1,c9,A9,_,by go_num,by omega,by omega,rfl,H4,H5,H3,H1,H2,H6⟩
  ·obtain rfl:j=n:=by omega
   have hmp:V.map (·.2)=joined f.sizes f.k f.funs:=by
    have:=HMAP.out;rw[List.take_of_length_le (by have:=HN.out;omega)]at this;exact this
   have hgf:GoodFs f.sizes f.k f.funs:=HOK.out.fs
   repeat (first | (exact rcanon_end HB.out HROW.out HVL.out HGR.out hmp hgf (by omega)) | go_step | dsimp only)
end Go.Proofs.YtjpkkkphhaajgaaGreatDoor.wcp

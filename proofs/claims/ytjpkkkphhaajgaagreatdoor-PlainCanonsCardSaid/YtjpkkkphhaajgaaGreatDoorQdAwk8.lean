/- a part -/
import Derived.Test.YtjpkkkphhaajgaaGreatDoorQdP42
set_option linter.all false
namespace Go.Proofs.YtjpkkkphhaajgaaGreatDoor.wcp
open Go RowKit ChangeShapes WideShapes ChangeAt Maps words scn
def aT:List UInt8 := [116,32,50,32,50,32,50,32,57,32,50,32,50,32,50,32,49,32,48,32,49,32,48,32,50,32,48,32,49,32,48,32,48]
def aL:List Wd := [([116],0),([50],2),([50],4),([50],6),([57],8),([50],10),([50],12),([50],14),([49],16),([48],18),([49],20),([48],22),([50],24),([48],26),([49],28),([48],30),([48],32)]
theorem aT_told:scn.Told aT aL (-1):=by
 have b1:=bld_nil.word (v := [116]) (by decide) (by decide) (b:=32) (by decide);have b2:=b1.word (v := [50]) (by decide) (by decide) (b:=32) (by decide);have b3:=b2.word (v := [50]) (by decide) (by decide) (b:=32) (by decide);have b4:=b3.word (v := [50]) (by decide) (by decide) (b:=32) (by decide);have b5:=b4.word (v := [57]) (by decide) (by decide) (b:=32) (by decide);have b6:=b5.word (v := [50]) (by decide) (by decide) (b:=32) (by decide);have b7:=b6.word (v := [50]) (by decide) (by decide) (b:=32) (by decide);have b8:=b7.word (v := [50]) (by decide) (by decide) (b:=32) (by decide);have b9:=b8.word (v := [49]) (by decide) (by decide) (b:=32) (by decide);have b10:=b9.word (v := [48]) (by decide) (by decide) (b:=32) (by decide);have b11:=b10.word (v := [49]) (by decide) (by decide) (b:=32) (by decide);have b12:=b11.word (v := [48]) (by decide) (by decide) (b:=32) (by decide);have b13:=b12.word (v := [50]) (by decide) (by decide) (b:=32) (by decide);have b14:=b13.word (v := [48]) (by decide) (by decide) (b:=32) (by decide);have b15:=b14.word (v := [49]) (by decide) (by decide) (b:=32) (by decide);have b16:=b15.word (v := [48]) (by decide) (by decide) (b:=32) (by decide);have b17:=b16.mid (v := [48]) (by decide) (by decide);exact b17.told
def aR1:Raw:=⟨[1,0],[2,2],1,[]⟩
def aR2:Raw:=⟨[0,1],[2,2],0,[]⟩
def aF:Fil:=⟨[116],9,[2,2],[aR1,aR2]⟩
theorem aT_read:pread (enOf aT (-1)) (eeOf (-1)) aL = .file aF:=by kernel_rfl
theorem aF_ok:OkFile aF where
 name:=⟨by decide,fun q hq=>by
  have:q=0:=by simp[aF]at hq;exact hq
  subst this;decide⟩
 nlen:=by decide
 k1:=by decide
 k2:=by decide
 s0:=by decide
 s1:=fun v hv=>by simp[aF]at hv;omega
 s2:=by decide
 n:=by decide
 fs:=fun x hx=>by
  have hx':x=aR1∨x=aR2:=by simpa [aF] using hx
  rcases hx' with rfl | rfl
  ·refine⟨⟨by decide,fun k hk=>by simp[aR1]at hk;omega,by decide,by decide,by decide,fun l hl=>by simp[aR1]at hl,by decide,by decide⟩,⟨fun v hv=>?_,by decide,by decide⟩,by decide⟩
   simp[aR1]at hv;have:(aF.sizes.length:Int)=2:=rfl;omega
  ·refine⟨⟨by decide,fun k hk=>by simp[aR2]at hk;omega,by decide,by decide,by decide,fun l hl=>by simp[aR2]at hl,by decide,by decide⟩,⟨fun v hv=>?_,by decide,by decide⟩,by decide⟩
   simp[aR2]at hv;have:(aF.sizes.length:Int)=2:=rfl;omega
theorem rise01:rise [0,1] = [0,1]:=rise_id (by simp)
theorem rise10:rise [1,0] = [0,1]:=rising_uniq (rise_lt (by decide)) (by simp) ((rise_perm _).trans (List.Perm.swap 0 1 []))
theorem aTurn1:turnF [2,2] 9 aR1=⟨[0,1],[2,2],[1,1,1,1]⟩:=by
 unfold turnF;rw[show aR1.scope = [1,0] from rfl,rise10]
 kernel_rfl
theorem aTurn2:turnF [2,2] 9 aR2=⟨[0,1],[2,2],[0,0,0,0]⟩:=by
 unfold turnF;rw[show aR2.scope = [0,1] from rfl,rise01]
 kernel_rfl
theorem aCanon:canonL [2,2] 9 [aR1,aR2] = [⟨[0,1],[2,2],[1,1,1,1]⟩]:=by
 have hj:joined [2,2] 9 [aR1,aR2] = [⟨[0,1],[2,2],[1,1,1,1]⟩]:=by
  unfold joined;rw[List.foldl_cons,List.foldl_cons,List.foldl_nil,aTurn1,aTurn2]
  kernel_rfl
 unfold canonL;rw[hj];have hf:([⟨[0,1],[2,2],[1,1,1,1]⟩]:List CF).filter (fun g => !isNothing g) = [⟨[0,1],[2,2],[1,1,1,1]⟩]:=by kernel_rfl
 rw[hf,List.mergeSort_singleton]
set_option maxRecDepth 100000 in
set_option maxHeartbeats 4000000 in
theorem awake8_any (w:World)(ht:Tab w):Calls Tryz.prog 8 #[] w fun e w'=>e = .returned (.bool true)∧Below w.heap.size w w':=by
 have kc:=fun (w:World) (C:Array Value) (n c:Nat)=>Lib.run_convert_bytes_const (P:=Tryz.prog) w 22 5 C n c Tryz.underlying22 Tryz.underlying5
 have hl:Reads (w.alloc (.cells (bv aT).toArray 5 (33,34))) (w.alloc (.cells (bv aT).toArray 5 (33,34))).heap.size 1 (some ⟨w.heap.size,0,none⟩) 33 (bv aT):=by
  refine⟨rfl,fun _=>⟨_,rfl,by simp,fun j u hu=>?_⟩⟩;have e:(Addr.add ⟨w.heap.size,0,none⟩ j)=⟨w.heap.size,j,none⟩:=by unfold Addr.add;split<;>simp_all
  rw[e,World.cell?_alloc_mark]
  simpa using hu
 have hbl:=bone w (.cells (bv aT).toArray 5 (33,34));have hrd:=read_any (some ⟨w.heap.size,0,none⟩) 33 33 aT (-1) aL _ rfl hl (by omega) aT_told (ht.below hbl);have HBL:=Hd hbl;clear hl hbl ht
 go_enter Tryz.func8,Tryz.ntmps8
 go_wp2_with fail;refine hrd.mono ?_;rintro e w1 ⟨hb1,hm⟩;rw[aT_read]at hm;obtain⟨g,rfl,hf⟩:=hm;obtain⟨hg,SA,sc,FA,fc,V,hfw⟩:=hf.filw;have HB1:=Hd (bto HBL.out hb1);have hcn:=canon_any hfw aF_ok (by decide);clear hrd hb1 hf hfw kc;go_wp2_with fail;refine hcn.mono ?_;rintro e w2 ⟨g2,SA2,sc2,FA2,fc2,V2,rfl,hg2,hfw2,hb2⟩;clear hcn;have hV2:V2.map (·.2.2.2) = [rawC ⟨[0,1],[2,2],[1,1,1,1]⟩]:=by rw[hfw2.1];show (canonL [2,2] 9 [aR1,aR2]).map rawC=_;rw[aCanon];rfl
 have hl1:V2.length=1:=by have:=congrArg List.length hV2;simpa using this
 obtain⟨p,hp⟩:=List.length_eq_one_iff.1 hl1;subst hp;obtain⟨-,hblk,-,hrow,hfs⟩:=hfw2;obtain⟨q0,q1,q2,q3,-⟩:=Blk.four (t:=34) hblk;obtain⟨v1,tg,ev,⟨⟨A1,c1,e1⟩,hr1⟩,-⟩:=hfs p (by simp);obtain⟨pv,lo,hi,pf⟩:=p;dsimp only at ev e1 hr1 hV2;simp only[List.map_cons,List.map_nil,List.cons.injEq,and_true]at hV2;subst hV2;subst e1;subst ev;obtain⟨fq,rfl,-,-⟩:=own_some hrow (by simp);have d0:=(hrow.cellAt 0 (by simp)).trans (show (fcells _)[0]?=some _ from rfl);rw[show (rawC ⟨[0,1],[2,2],[1,1,1,1]⟩).scope.length=2 from rfl,show (rawC ⟨[0,1],[2,2],[1,1,1,1]⟩).scope = [0,1] from rfl]at hr1;rw[show (rawC ⟨[0,1],[2,2],[1,1,1,1]⟩).scope.length=2 from rfl]at d0;obtain⟨w3,hw3⟩:∃w3,w2.alloc (.cells #[.int .i64 0,.int .i64 1] 3)=w3:=⟨_,rfl⟩;have hb3:Below w2.heap.size w2 w3:=by rw[← hw3];exact bone w2 _
 have hr3:Reads w3 w3.heap.size 1 (some ⟨w2.heap.size,0,none⟩) 2 (nums [0,1]):=by rw[← hw3];exact reads_block (t:=3) (heap_alloc_new _ _) rfl
 have heq:=equalI_any A1 (some ⟨w2.heap.size,0,none⟩) 2 2 c1 2 [0,1] [0,1] w3 (by omega) (by omega) (Reads.of_own (own_under hr1 hb3)) hr3;rw[show eqB [0,1] [0,1]=true by decide]at heq;have HB3:=Hd (bto (bto HB1.out hb2) hb3);clear hblk hrow hfs hr1 hb2 hb3 hr3;go_wp2_with fail
 try rw[hw3]
 clear hw3;go_wp2_with fail;refine heq.mono ?_;rintro e w4 ⟨rfl,hb4⟩;clear heq;go_wp2_with fail;go_ret;exact⟨rfl,bto HB3.out hb4⟩
end Go.Proofs.YtjpkkkphhaajgaaGreatDoor.wcp

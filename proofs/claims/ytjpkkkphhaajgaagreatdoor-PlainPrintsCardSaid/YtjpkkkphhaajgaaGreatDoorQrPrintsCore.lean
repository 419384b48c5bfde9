/- PrintsCore. -/
import Derived.Test.YtjpkkkphhaajgaaGreatDoorQrTakes
import Derived.Test.YtjpkkkphhaajgaaGreatDoorQrAwk8
import Derived.Test.YtjpkkkphhaajgaaGreatDoorQrP45
import Derived.Test.YtjpkkkphhaajgaaGreatDoorQrP27
import Derived.Test.YtjpkkkphhaajgaaGreatDoorQrP44
import Derived.Test.YtjpkkkphhaajgaaGreatDoorQrP50
import Derived.Test.YtjpkkkphhaajgaaGreatDoorQrP48
set_option linter.all false
namespace Go.Proofs.YtjpkkkphhaajgaaGreatDoor.wcp
open Go Go.RowKit Go.Shelf Go.ChangeShapes Go.WideShapes Go.ChangeAt Go.Maps Go.Proofs.YtjpkkkphhaajgaaGreatDoor.words Go.Proofs.YtjpkkkphhaajgaaGreatDoor.scn
theorem cp_at {f f2:Fil}(h:CpF f f2){x':Raw}(hx:x'∈f2.funs):∃x,x∈f.funs∧Cp1 f.k x x':=by
 obtain⟨-,-,-,hl,hc⟩:=h;obtain⟨i,hi⟩:=List.getElem?_of_mem hx;have hlt:=(List.getElem?_eq_some_iff.1 hi).1;have hx:f.funs[i]?=some (f.funs[i]'(by omega)):=List.getElem?_eq_getElem _;exact⟨_,List.mem_of_getElem? hx,hc i _ _ hx hi⟩
theorem cp_ok {f f2:Fil}(h:CpF f f2)(hok:OkFile f):OkFile f2:=by
 obtain⟨h1,h2,h3,h4,-⟩:=id h;refine⟨?_,?_,?_,?_,?_,?_,?_,?_,fun x' hx=>?_⟩
 ·rw[h1];exact hok.name
 ·rw[h1];exact hok.nlen
 ·rw[h2];exact hok.k1
 ·rw[h2];exact hok.k2
 ·rw[h3];exact hok.s0
 ·rw[h3];exact hok.s1
 ·rw[h3];exact hok.s2
 ·rw[h4];exact hok.n
 ·obtain⟨x,hm,c⟩:=cp_at h hx
  obtain⟨-,e2,e3⟩:=hok.fs x hm;refine⟨?_,?_,?_⟩
  ·rw[h2];exact c.ok
  ·unfold FitF at *;rw[h3,c.scope,c.sizes];exact e2
  ·rw[c.sizes];exact e3
theorem cp_same {f f2:Fil}(h:CpF f f2):FilS f f2:=by
 obtain⟨h1,h2,h3,h4,h5⟩:=id h;refine⟨h1.symm,h2.symm,h3.symm,h4.symm,fun j x y hx hy=>?_⟩;have c:=h5 j x y hx hy;refine⟨c.scope.symm,?_⟩;rw[c.tp];exact⟨rfl,rfl,fun _ _=>rfl,.inl rfl⟩
set_option maxRecDepth 1000000 in
set_option maxHeartbeats 16000000 in
theorem prints_core (A:Option Addr)(n cap:Nat)(xs:List UInt8)(w:World)(hn:n≤9223372036854775807)(hnc:n≤cap)(hr:Reads w w.heap.size 1 A n (bv xs))(ht:Tab w) :
 Calls Tryz.prog 5 #[.slice A n cap] w fun e w'=>e = .returned (.bool true)∧Below w.heap.size w w':=by
 have haw:=awake8_any w ht;have HT:=Hd ht;have HR:=Hd hr;clear hr ht
 go_enter Tryz.func5,Tryz.ntmps5
 go_wp2_with fail;refine haw.mono ?_;rintro e w1 ⟨rfl,hb1⟩;have hrd:=read8_w A n cap xs w1 hn hnc ((HR.out.below hb1).more hb1.size) (HT.out.below hb1);have HB1:=Hd hb1;clear haw hb1;go_wp2_with fail;refine hrd.mono ?_;rintro e w2 ⟨hb2,hm⟩;have HB2:=Hd (bto HB1.out hb2);clear hrd hb2;rcases hm with rfl | ⟨gf,gx,B,f,SA,sc,FA,fc,V,rfl,hok,hli,hwt,hfw,hgf,hB,hBx,hqv⟩
 ·go_wp2_with fail
  go_ret;exact⟨rfl,HB2.out⟩
 ·have hcp:=fcopy_any hfw hok
  have HOK:=Hd hok;have HLI:=Hd hli;have HFW:=Hd hfw;have HQV:=Hd hqv;have HLEN:=Hd (prn_le hok hli hwt);clear hok hli hwt hfw hqv hgf hB hBx;go_wp2_with fail;refine hcp.mono ?_;rintro e w3 ⟨g2,f2,SA2,sc2,FA2,fc2,V2,rfl,hb3,hg2,hcf,hfw2,-⟩;have HB3:=Hd (bto HB2.out hb3);have HFW3:=Hd (HFW.out.below hb3);have HQV3:=Hd (HQV.out.below hb3);have HFC:=Hd hfw2;have HCF:=Hd hcf;clear hcp hb3 hg2 hcf hfw2;have hpr:=print_any HFW3.out HOK.out HLI.out HLEN.out (HT.out.below HB3.out);go_wp2_with fail;refine hpr.mono ?_;rintro e w4 ⟨PA,pc,rfl,hrp,hb4⟩;have HB4:=Hd (bto HB3.out hb4);have HFW4:=Hd (HFW3.out.below hb4);have HQV4:=Hd (HQV3.out.below hb4);have HFC4:=Hd (HFC.out.below hb4);have HRP:=Hd hrp;clear hpr hb4 hrp;have hps:=psame_any HFW4.out HFC4.out HOK.out (cp_ok HCF.out HOK.out);go_wp2_with fail;refine hps.mono ?_;rintro e w5 ⟨b,rfl,hb,hb5⟩;obtain rfl:b=true:=hb.2 (cp_same HCF.out);have HB5:=Hd hb5;clear hps hb hb5
  repeat (first | (exact pp_head (bto HB4.out HB5.out) (HFW4.out.below HB5.out) (HQV4.out.below HB5.out) HOK.out HLI.out HLEN.out rfl ((HRP.out.below HB5.out).more HB5.out.size) rfl (HT.out.below (bto HB4.out HB5.out))) | go_step | dsimp only)
end Go.Proofs.YtjpkkkphhaajgaaGreatDoor.wcp

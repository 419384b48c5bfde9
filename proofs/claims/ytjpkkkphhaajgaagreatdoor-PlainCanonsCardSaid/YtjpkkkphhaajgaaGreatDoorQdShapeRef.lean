/- a part -/
import Derived.Test.YtjpkkkphhaajgaaGreatDoorQdP04
import Derived.Deep.Cut
set_option linter.all false
namespace Go.Proofs.YtjpkkkphhaajgaaGreatDoor.shp
open Go RowKit ChangeShapes WideShapes ChangeAt words
def AllOf (xs:List Int)(w:World)(e:Ending)(w':World):Prop := ∃A c,e = .returned (.slice A (allI xs).length c)∧RowsI w' w.heap.size A c (allI xs)∧Below w.heap.size w w'
def Mid (w wr:World)(Ar:Option Addr)(cr:Nat)(R:List (List Int))(Ao:Option Addr)(co:Nat)(L:List (List Int)):Prop :=
 RowsI wr w.heap.size Ar cr R∧RowsI wr w.heap.size Ao co L∧(∀q,(Value.slice Ao L.length co).ownBlock=some q→(Value.slice Ar R.length cr).ownBlock≠some q)∧Below w.heap.size w wr
theorem Mid.push {vo:List Value}{w wr w2 w4:World}{Ar Ao A2 A4:Option Addr}{cr co c2 c4:Nat}{R L:List (List Int)}{v:Int}{t:List Int}(h:RowsI wr w.heap.size Ar cr R∧(wr.ownsRow w.heap.size 31 1 (.slice Ao L.length co) L.length vo∧Inn wr w.heap.size vo L)∧(∀q,(Value.slice Ao L.length co).ownBlock=some q→(Value.slice Ar R.length cr).ownBlock≠some q)∧Below w.heap.size w wr)
 (h2:w2.ownsRow wr.heap.size 3 1 (.slice A2 (1+t.length) c2) (1+t.length) (nums (v::t))) (hg2:(wr.alloc (.cells #[.int .i64 v] 3)).grownBy w2 (some wr.heap.size))
 (h4:w4.ownsRow w.heap.size 31 1 (.slice A4 (L.length+1) c4) (L.length+1) (vo ++ [.slice A2 (1+t.length) c2])) (hg4:(w2.alloc (.cells #[.slice A2 (1+t.length) c2] 31)).grownBy w4 (Value.slice Ao L.length co).ownBlock)
 (hat:(Value.slice A4 (L.length+1) c4).ownBlock=(Value.slice Ao L.length co).ownBlock∨(Value.slice A4 (L.length+1) c4).ownBlock=some (w2.heap.size+1)) :
 Mid w w4 Ar cr R A4 c4 (L ++ [v::t]):=by
 obtain⟨⟨vr,r1,r2⟩,⟨o1,o2⟩,hap,hb⟩:=h;have hb2:Below wr.heap.size wr w2:=(bone wr (.cells #[.int .i64 v] 3)).grown hg2 (by simp) (by simp);have hb3:Below wr.heap.size wr (w2.alloc (.cells #[.slice A2 (1+t.length) c2] 31)):=bnew hb2 _;have o3:=own_under o1 hb3;have r3:=own_under r1 hb3;have i3:=o2.under hb3;have j3:=r2.under hb3;have n3:=h2.alloc (.cells #[.slice A2 (1+t.length) c2] 31);have i4:=i3.keep o3 hg4;have j4:=j3.keep o3 hg4;have n4:=own_keep n3 o3 (by decide) hg4;have hlt:=hb.size
 have r4:w4.ownsRow w.heap.size 31 1 (.slice Ar R.length cr) R.length vr:=by
  refine r3.kept hg4 ?_
  cases hq:(Value.slice Ar R.length cr).ownBlock with
  |none=>exact .inl rfl
  |some q=>exact .inr fun e=>hap q e.symm hq
 refine⟨⟨vr,r4,j4⟩,⟨vo ++ [.slice A2 (1+t.length) c2],?_,?_⟩,?_,?_⟩
 ·rw[List.length_append];exact h4
 ·have:Inn w4 w.heap.size (vo ++ [.slice A2 (v::t).length c2]) (L ++ [v::t]):=i4.snoc (own_base (by rw[show (v::t).length=1+t.length by simp;omega];exact n4) hlt)
  rw[show (v::t).length=1+t.length by simp;omega]at this;exact this
 ·intro q hq e
  rw[List.length_append]at hq;rcases hat with h | h
  ·exact hap q (h.symm.trans hq) e
  ·have hq':q=w2.heap.size+1:=by
    have:=h.symm.trans hq;injection this with this
    exact this.symm
   have:=(own_in r1 e).2;have:=hb2.size;omega
 ·exact (hb.trans (hb3.mono hlt)).grown hg4 (by have:=hb3.size;omega) fun k hk=>(own_in o3 hk).1
set_option maxRecDepth 100000 in
set_option maxHeartbeats 4000000 in
theorem ref_all (xs:List Int):∀ (A:Option Addr) (n cap:Nat) (w:World),n≤cap→Reads w w.heap.size 1 A n (nums xs)→Szs xs→Calls Tryz.prog 29 #[.slice A n cap] w (AllOf xs w):=by
 obtain⟨i0,hi0,hz0,hz1,hz2⟩:=info_parts infoI;obtain⟨i1,hj0,hy0,hy1,hy2⟩:=info_parts infoR
 induction xs with
 | nil =>
   intro A n cap w hnc hr hz;obtain rfl:n=0:=by have:=nums_len hr;simpa using this.symm
   go_enter Tryz.func29,Tryz.ntmps29
   go_wp2
   go_ret
   exact⟨some ⟨w.heap.size,0,none⟩,1,rfl,⟨[.slice none 0 0],World.ownsRow_lit w _ 1 (Nat.le_refl _) (by unfold maxLen;omega) rfl,Inn.snoc (t := []) (Inn.nil _ _) (World.ownsRow_nil _ _ _ _)⟩,bone _ _⟩
 | cons x xs ih =>
   intro A n cap w hnc hr hz;have hlen:=nums_len hr;rw[List.length_cons]at hlen;have hz1':=hz.1;rw[List.length_cons]at hz1';have hx0:=hz.2 x (by simp);obtain⟨X,rfl⟩:∃X:Nat,x=X:=⟨x.toNat,by omega⟩;have hz':Szs xs:=szs_drop hz 1;have hcut:=reads_cut hr (k:=1) (by omega) hnc (by omega);have hRl:(allI xs).length≤1073741824:=by have h1:=all_len (xs:=xs) fun y hy=>(hz'.2 y hy).1;have h2:=szs_prod hz';omega
   have hRt:∀t∈allI xs,t.length≤6:=fun t ht=>by rw[all_lens t ht];omega
   obtain⟨ad,x',hA,_,_,_⟩:=hr.num (k:=0) (by omega);subst hA;simp only[Option.map]at hcut;unfold AllOf;rw[all_cons];unfold AllOf at ih;obtain⟨R,hR⟩:∃R,allI xs=R:=⟨_,rfl⟩;rw[hR]at ih hRl hRt ⊢;rw[Int.toNat_natCast];clear hR;by_cases hck:cap=1
   ·have hx':=hcut.1 hck
    subst hck;obtain rfl:n=1:=by omega
    have hci:=fun w' A' m c' hm h=>ih A' m c' w' hm h hz'
    clear hcut ih
    go_enter Tryz.func29,Tryz.ntmps29
    go_wp2_with (first
     |(go_at_call 29;(with_reducible refine (hci _ _ _ _ (by omega) hx').mono ?_);rintro e w1 ⟨A1,c1,rfl,hR1,hb1⟩))
    have HRL:=Hd hRl;have HRT:=Hd hRt;clear hRl hRt
    go_loopw [3,5,7,24] (fun ov iv _ _ wr => ∃ (v:Nat) (Ao:Option Addr) (co:Nat),v≤X∧iv = .int .i64 v∧ov = .slice Ao (preI R v).length co∧Mid w wr A1 c1 R Ao co (preI R v)) (fun _ iv _ _ _=>X-(intOf iv).toNat)
    case atStart=>exact⟨0,none,0,Nat.zero_le _,rfl,rfl,hR1,⟨[],World.ownsRow_nil _ _ _ _,Inn.nil _ _⟩,fun q h=>by simp[Value.ownBlock]at h,hb1⟩
    case round =>
     clear hR1 hb1;obtain⟨v,Ao,co,hv,rfl,rfl,hM⟩:=hrel;obtain⟨ad',x',hA,_,hx,hc⟩:=(hr.below hM.2.2.2).num (k:=0) (by omega);obtain rfl:ad=ad':=Option.some.inj hA;obtain rfl:x'=(X:Int):=by simpa using hx.symm
     rw[show ad.add 0=ad by simp[Addr.add]]at hc;by_cases hlt:v<X
     ·have hltI:(v:Int)<(X:Int):=by omega
      go_wp2
      rw[← so_zero]at hM ⊢
      go_loopw [3,7,24] (fun ov _ jv wr => ∃ (j:Nat) (Ao:Option Addr) (co:Nat),j≤R.length∧jv = .int .i64 j∧ov = .slice Ao (soI R v j).length co∧Mid w wr A1 c1 R Ao co (soI R v j)) (fun _ _ jv _=>R.length-(intOf jv).toNat)
      case atStart=>exact⟨0,Ao,co,Nat.zero_le _,rfl,rfl,hM⟩
      case round =>
       clear hM hc
       rename_i Ao0 co0
       obtain⟨j,Ao,co,hj,rfl,rfl,hM⟩:=hrel;by_cases hltj:j<R.length
       ·obtain⟨t,ht⟩:∃t,R[j]?=some t:=⟨_,List.getElem?_eq_getElem hltj⟩
        obtain⟨g,A',c',rfl,hcj,hrt0,htc,_,hRc⟩:=hM.1.at_ ht;have htl:=HRT.out t (List.mem_of_getElem? ht);have HS:=Hd (so_snoc (v:=v) ht)
        have hLl:(soI R v j).length=v*R.length+j:=by
         unfold soI;rw[List.length_append,pre_len,List.length_map,List.length_take];omega
        have hLb:(soI R v j).length≤100000000000:=by
         have h1:v*R.length≤32*1073741824:=Nat.mul_le_mul (by omega) HRL.out;have h2:=HRL.out;omega
        obtain⟨L,hL⟩:∃L,soI R v j=L:=⟨_,rfl⟩;rw[hL]at hM HS hLb ⊢;clear hL hLl;obtain⟨hm1,⟨vo,hm2,hm3⟩,hm4,hm5⟩:=hM;have HM:=Hd (And.intro hm1 (And.intro (And.intro hm2 hm3) (And.intro hm4 hm5)));have ho1:(wr.alloc (.cells #[.int .i64 v] 3)).ownsRow wr.heap.size 3 1 (.slice (some ⟨wr.heap.size,0,none⟩) 1 1) 1 (nums [(v:Int)]):=World.ownsRow_lit wr _ 1 (Nat.le_refl _) (by unfold maxLen;omega) rfl;have hrt:Reads (wr.alloc (.cells #[.int .i64 v] 3)) (wr.alloc (.cells #[.int .i64 v] 3)).heap.size 1 A' t.length (nums t):=(hrt0.alloc (Nat.le_refl _) _).more (by simp);have HT:=Hd ht;have HO2:=Hd hm2;have hws:=hm5.size;clear hm1 hm2 hm3 hm4 hm5 hrt0 ht;have hR30:=HRL.out;go_upto_region 11 with fail
        go_wp2_with (first
         |(at_builtin;refine wpList_append_any _ rfl (.tmp 30) (.tmp 31) _ rfl wr.heap.size 3 i0 _ 1 8 Tryz.underlying31 hi0 hz0 hz1 hz2 rfl (by omega) _ 1 _ rfl ho1 (wr.alloc (.cells #[.int .i64 v] 3)).heap.size A' t.length c' (nums t) rfl hrt nums_one (by simp only[maxLen];omega) (by omega) (by simp) ?_;intro v2 w2 hown2 hg2 hat2;clear hat2;obtain⟨A2,c2,rfl⟩:=own_shape hown2;have hb2:Below wr.heap.size wr w2:=(bone wr (.cells #[.int .i64 v] 3)).grown (show (wr.alloc (.cells #[.int .i64 v] 3)).grownBy w2 (some wr.heap.size) from hg2) (by simp) (by simp);have ho3:=own_under HO2.out (bnew hb2 (.cells #[.slice A2 (1+t.length) c2] 31));have hr3:Reads (w2.alloc (.cells #[.slice A2 (1+t.length) c2] 31)) (w2.alloc (.cells #[.slice A2 (1+t.length) c2] 31)).heap.size 1 (some ⟨w2.heap.size,0,none⟩) 1 [.slice A2 (1+t.length) c2]:=reads_block (t:=31) (heap_alloc_new _ _) rfl;have hs3:w.heap.size≤(w2.alloc (.cells #[.slice A2 (1+t.length) c2] 31)).heap.size:=(by have:=hb2.size;simp;omega);have HW2:=Hd hown2;have HG2:=Hd hg2;clear hown2 hg2 hb2 ho1 hrt)
         |(at_builtin;refine wpList_append_any _ rfl (.tmp 28) (.tmp 33) _ rfl w.heap.size 31 i1 _ 1 24 Tryz.underlying71 hj0 hy0 hy1 hy2 rfl (by omega) (.slice Ao L.length co) L.length _ rfl ho3 (w2.alloc (.cells #[.slice A2 (1+t.length) c2] 31)).heap.size (some ⟨w2.heap.size,0,none⟩) 1 1 [.slice A2 (1+t.length) c2] rfl hr3 (fun u hu=>by simp at hu;subst hu;rfl) (by simp only[maxLen];omega) (by omega) hs3 ?_;intro v4 w4 hown4 hg4 hat4;obtain⟨A4,c4,rfl⟩:=own_shape hown4;have HW4:=Hd hown4;have HG4:=Hd hg4;have HA4:=Hd hat4;clear hown4 hg4 hat4 ho3 hr3))
        go_roundw
        case rel =>
         have hn:nums [(v:Int)]++nums t=nums ((v:Int)::t):=rfl;have h2:=HW2.out;rw[hn]at h2;have hM4:=Mid.push HM.out h2 HG2.out HW4.out HG4.out (by have h:=HA4.out;rw[show (w2.alloc (.cells #[.slice A2 (1+t.length) c2] 31)).heap.size=w2.heap.size+1 by simp]at h;exact h);rw[← HS.out]at hM4;have hl:(soI R v (j+1)).length=L.length+1:=by rw[HS.out];simp
         exact⟨j+1,A4,c4,by omega,by go_num,by rw[hl],hM4⟩
        case measure=>simp[intOf];omega
       ·obtain rfl:j=R.length:=by omega
        rw[so_all]at hM ⊢
        go_wp2
        go_roundw
        case rel=>exact⟨v+1,Ao,co,by omega,by go_num,rfl,hM⟩
        case measure=>simp[intOf];omega
     ·obtain rfl:v=X:=by omega
      go_wp2
      go_ret;exact⟨Ao,co,rfl,⟨_,hM.2.1.choose_spec.1,hM.2.1.choose_spec.2⟩,hM.2.2.2⟩
   ·have hx':=hcut.2 hck
    have hci:=fun w' A' m c' hm h=>ih A' m c' w' hm h hz'
    clear hcut ih
    go_enter Tryz.func29,Tryz.ntmps29
    go_wp2_with (first
     |(go_at_call 29;(with_reducible refine (hci _ _ _ _ (by omega) hx').mono ?_);rintro e w1 ⟨A1,c1,rfl,hR1,hb1⟩))
    have HRL:=Hd hRl;have HRT:=Hd hRt;clear hRl hRt
    go_loopw [3,5,7,24] (fun ov iv _ _ wr => ∃ (v:Nat) (Ao:Option Addr) (co:Nat),v≤X∧iv = .int .i64 v∧ov = .slice Ao (preI R v).length co∧Mid w wr A1 c1 R Ao co (preI R v)) (fun _ iv _ _ _=>X-(intOf iv).toNat)
    case atStart=>exact⟨0,none,0,Nat.zero_le _,rfl,rfl,hR1,⟨[],World.ownsRow_nil _ _ _ _,Inn.nil _ _⟩,fun q h=>by simp[Value.ownBlock]at h,hb1⟩
    case round =>
     clear hR1 hb1;obtain⟨v,Ao,co,hv,rfl,rfl,hM⟩:=hrel;obtain⟨ad',x',hA,_,hx,hc⟩:=(hr.below hM.2.2.2).num (k:=0) (by omega);obtain rfl:ad=ad':=Option.some.inj hA;obtain rfl:x'=(X:Int):=by simpa using hx.symm
     rw[show ad.add 0=ad by simp[Addr.add]]at hc;by_cases hlt:v<X
     ·have hltI:(v:Int)<(X:Int):=by omega
      go_wp2
      rw[← so_zero]at hM ⊢
      go_loopw [3,7,24] (fun ov _ jv wr => ∃ (j:Nat) (Ao:Option Addr) (co:Nat),j≤R.length∧jv = .int .i64 j∧ov = .slice Ao (soI R v j).length co∧Mid w wr A1 c1 R Ao co (soI R v j)) (fun _ _ jv _=>R.length-(intOf jv).toNat)
      case atStart=>exact⟨0,Ao,co,Nat.zero_le _,rfl,rfl,hM⟩
      case round =>
       clear hM hc
       rename_i Ao0 co0
       obtain⟨j,Ao,co,hj,rfl,rfl,hM⟩:=hrel;by_cases hltj:j<R.length
       ·obtain⟨t,ht⟩:∃t,R[j]?=some t:=⟨_,List.getElem?_eq_getElem hltj⟩
        obtain⟨g,A',c',rfl,hcj,hrt0,htc,_,hRc⟩:=hM.1.at_ ht;have htl:=HRT.out t (List.mem_of_getElem? ht);have HS:=Hd (so_snoc (v:=v) ht)
        have hLl:(soI R v j).length=v*R.length+j:=by
         unfold soI;rw[List.length_append,pre_len,List.length_map,List.length_take];omega
        have hLb:(soI R v j).length≤100000000000:=by
         have h1:v*R.length≤32*1073741824:=Nat.mul_le_mul (by omega) HRL.out;have h2:=HRL.out;omega
        obtain⟨L,hL⟩:∃L,soI R v j=L:=⟨_,rfl⟩;rw[hL]at hM HS hLb ⊢;clear hL hLl;obtain⟨hm1,⟨vo,hm2,hm3⟩,hm4,hm5⟩:=hM;have HM:=Hd (And.intro hm1 (And.intro (And.intro hm2 hm3) (And.intro hm4 hm5)));have ho1:(wr.alloc (.cells #[.int .i64 v] 3)).ownsRow wr.heap.size 3 1 (.slice (some ⟨wr.heap.size,0,none⟩) 1 1) 1 (nums [(v:Int)]):=World.ownsRow_lit wr _ 1 (Nat.le_refl _) (by unfold maxLen;omega) rfl;have hrt:Reads (wr.alloc (.cells #[.int .i64 v] 3)) (wr.alloc (.cells #[.int .i64 v] 3)).heap.size 1 A' t.length (nums t):=(hrt0.alloc (Nat.le_refl _) _).more (by simp);have HT:=Hd ht;have HO2:=Hd hm2;have hws:=hm5.size;clear hm1 hm2 hm3 hm4 hm5 hrt0 ht;have hR30:=HRL.out;go_upto_region 11 with fail
        go_wp2_with (first
         |(at_builtin;refine wpList_append_any _ rfl (.tmp 30) (.tmp 31) _ rfl wr.heap.size 3 i0 _ 1 8 Tryz.underlying31 hi0 hz0 hz1 hz2 rfl (by omega) _ 1 _ rfl ho1 (wr.alloc (.cells #[.int .i64 v] 3)).heap.size A' t.length c' (nums t) rfl hrt nums_one (by simp only[maxLen];omega) (by omega) (by simp) ?_;intro v2 w2 hown2 hg2 hat2;clear hat2;obtain⟨A2,c2,rfl⟩:=own_shape hown2;have hb2:Below wr.heap.size wr w2:=(bone wr (.cells #[.int .i64 v] 3)).grown (show (wr.alloc (.cells #[.int .i64 v] 3)).grownBy w2 (some wr.heap.size) from hg2) (by simp) (by simp);have ho3:=own_under HO2.out (bnew hb2 (.cells #[.slice A2 (1+t.length) c2] 31));have hr3:Reads (w2.alloc (.cells #[.slice A2 (1+t.length) c2] 31)) (w2.alloc (.cells #[.slice A2 (1+t.length) c2] 31)).heap.size 1 (some ⟨w2.heap.size,0,none⟩) 1 [.slice A2 (1+t.length) c2]:=reads_block (t:=31) (heap_alloc_new _ _) rfl;have hs3:w.heap.size≤(w2.alloc (.cells #[.slice A2 (1+t.length) c2] 31)).heap.size:=(by have:=hb2.size;simp;omega);have HW2:=Hd hown2;have HG2:=Hd hg2;clear hown2 hg2 hb2 ho1 hrt)
         |(at_builtin;refine wpList_append_any _ rfl (.tmp 28) (.tmp 33) _ rfl w.heap.size 31 i1 _ 1 24 Tryz.underlying71 hj0 hy0 hy1 hy2 rfl (by omega) (.slice Ao L.length co) L.length _ rfl ho3 (w2.alloc (.cells #[.slice A2 (1+t.length) c2] 31)).heap.size (some ⟨w2.heap.size,0,none⟩) 1 1 [.slice A2 (1+t.length) c2] rfl hr3 (fun u hu=>by simp at hu;subst hu;rfl) (by simp only[maxLen];omega) (by omega) hs3 ?_;intro v4 w4 hown4 hg4 hat4;obtain⟨A4,c4,rfl⟩:=own_shape hown4;have HW4:=Hd hown4;have HG4:=Hd hg4;have HA4:=Hd hat4;clear hown4 hg4 hat4 ho3 hr3))
        go_roundw
        case rel =>
         have hn:nums [(v:Int)]++nums t=nums ((v:Int)::t):=rfl;have h2:=HW2.out;rw[hn]at h2;have hM4:=Mid.push HM.out h2 HG2.out HW4.out HG4.out (by have h:=HA4.out;rw[show (w2.alloc (.cells #[.slice A2 (1+t.length) c2] 31)).heap.size=w2.heap.size+1 by simp]at h;exact h);rw[← HS.out]at hM4;have hl:(soI R v (j+1)).length=L.length+1:=by rw[HS.out];simp
         exact⟨j+1,A4,c4,by omega,by go_num,by rw[hl],hM4⟩
        case measure=>simp[intOf];omega
       ·obtain rfl:j=R.length:=by omega
        rw[so_all]at hM ⊢
        go_wp2
        go_roundw
        case rel=>exact⟨v+1,Ao,co,by omega,by go_num,rfl,hM⟩
        case measure=>simp[intOf];omega
     ·obtain rfl:v=X:=by omega
      go_wp2
      go_ret;exact⟨Ao,co,rfl,⟨_,hM.2.1.choose_spec.1,hM.2.1.choose_spec.2⟩,hM.2.2.2⟩
end Go.Proofs.YtjpkkkphhaajgaaGreatDoor.shp

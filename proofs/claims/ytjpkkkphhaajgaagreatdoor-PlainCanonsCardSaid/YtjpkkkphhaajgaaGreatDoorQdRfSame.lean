/- a part -/
import Derived.Test.YtjpkkkphhaajgaaGreatDoorQdP10
set_option linter.all false
namespace Go.Proofs.YtjpkkkphhaajgaaGreatDoor.words
open ChangeShapes WideShapes ChangeAt RowKit
theorem same3_any (A C:Option Addr)(n m a c:Nat)(xs ys:List Int)(w:World)(hn:n≤9223372036854775807)(hm:m≤9223372036854775807)(hx:Reads w w.heap.size 1 A n (nums xs))(hy:Reads w w.heap.size 1 C m (nums ys)) :
 Calls Tryz.prog 51 #[.slice A n a,.slice C m c] w fun e w'=>e = .returned (.bool (eqB xs ys))∧Below w.heap.size w w':=by
 have hlx:=nums_len hx;have hly:=nums_len hy;by_cases hnm:n=m
 ·subst hnm
  go_enter Tryz.func51,Tryz.ntmps51
  go_wp2
  go_loopw [13] (fun iv wr => ∃j:Nat,j≤n∧iv = .int .i64 j∧xs.take j=ys.take j∧Below w.heap.size w wr) (fun iv _=>n-(intOf iv).toNat)
  case atStart=>exact⟨0,by omega,rfl,rfl,Below.refl _ _⟩
  case round =>
   obtain⟨j,hj,rfl,he,hbr⟩:=hrel;have HE:=Hd he;clear he;by_cases hlt:j<n
   ·obtain⟨ad,x,rfl,_,hxj,hcx⟩:=(hx.lift hbr).num hlt
    obtain⟨ad2,y,rfl,_,hyj,hcy⟩:=(hy.lift hbr).num hlt;have i0:(0:Int)≤(j:Int):=Int.natCast_nonneg _;have i1:(j:Int)<(n:Int):=by omega
    by_cases hxy:x=y
    ·have HX:=Hd hxj
     have HY:=Hd hyj;have HXY:=Hd hxy;have hb:(x != y)=false:=by simp[hxy]
     have hb2:(x==y)=true:=by simp[hxy]
     clear hxj hyj hxy;go_wp2_with fail
     go_quiet (fail)
     go_wp2
     go_roundw
     case rel =>
      refine⟨j+1,by omega,by go_num,?_,below_drewN hbr _⟩;rw[List.take_add_one,List.take_add_one,HX.out,HY.out,HE.out,HXY.out]
     case measure=>simp[intOf];omega
    ·have HF:=Hd (eqB_at hxj hyj hxy)
     have hb:(x != y)=true:=by simp[hxy]
     have hb2:(x==y)=false:=by simp[hxy]
     clear hxj hyj hxy;go_wp2_with fail
     go_quiet (fail)
     go_wp2
     go_ret;exact⟨ret_bool HF.out.symm,below_drewN hbr _⟩
   ·have HT:Hid (eqB xs ys=true):=by
     have h:=HE.out;rw[List.take_of_length_le (by omega),List.take_of_length_le (by omega)]at h;exact decide_eq_true h
    go_wp2
    go_ret;exact⟨ret_bool HT.out.symm,hbr⟩
 ·have HF:=Hd (eqB_len (xs:=xs) (ys:=ys) (by omega))
  have hb:((n:Int) != (m:Int))=true:=by simp;omega
  have hb2:((n:Int)==(m:Int))=false:=by simp;omega
  clear hnm
  go_enter Tryz.func51,Tryz.ntmps51
  go_wp2
  go_ret;exact⟨ret_bool HF.out.symm,Below.refl _ _⟩
end Go.Proofs.YtjpkkkphhaajgaaGreatDoor.words

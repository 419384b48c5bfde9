/- a part -/
import Derived.Test.YtjpkkkphhaajgaaGreatDoorQdTakes
import Derived.Test.YtjpkkkphhaajgaaGreatDoorQdP01
import Derived.ProofKit
set_option linter.all false
namespace Go.Proofs.YtjpkkkphhaajgaaGreatDoor.words
open ChangeShapes WideShapes ChangeAt RowKit
def eqB (xs ys:List Int):Bool:=decide (xs=ys)
theorem eqB_len {xs ys:List Int}(h:xs.length≠ys.length):eqB xs ys=false:=decide_eq_false fun e=>h (by rw[e])
theorem eqB_at {xs ys:List Int}{j:Nat}{x y:Int}(hx:xs[j]?=some x)(hy:ys[j]?=some y)(h:x≠y):eqB xs ys=false :=
 decide_eq_false fun e=>h (by rw[e,hy]at hx;exact (Option.some.inj hx).symm)
theorem equal64_any (A C:Option Addr)(n m a c:Nat)(xs ys:List Int)(w:World)(hn:n≤9223372036854775807)(hm:m≤9223372036854775807)(hx:Reads w w.heap.size 1 A n (nums xs))(hy:Reads w w.heap.size 1 C m (nums ys)) :
 Calls Tryz.prog 20 #[.slice A n a,.slice C m c] w fun e w'=>e = .returned (.bool (eqB xs ys))∧Below w.heap.size w w':=by
 have hlx:=nums_len hx;have hly:=nums_len hy;by_cases hnm:n=m
 ·subst hnm
  go_enter Tryz.func20,Tryz.ntmps20
  go_wp2
  go_loopw [13] (fun iv wr => ∃j:Nat,j≤n∧iv = .int .i64 j∧xs.take j=ys.take j∧Below w.heap.size w wr) (fun iv _=>n-(intOf iv).toNat)
  case atStart=>exact⟨0,by omega,rfl,rfl,Below.refl _ _⟩
  case round =>
   obtain⟨j,hj,rfl,he,hbr⟩:=hrel;have HE:=Hd he;clear he;by_cases hlt:j<n
   ·obtain⟨ad,x,rfl,_,hxj,hcx⟩:=(hx.lift hbr).num hlt
    obtain⟨ad2,y,rfl,_,hyj,hcy⟩:=(hy.lift hbr).num hlt;have i0:(0:Int)≤(j:Int):=Int.natCast_nonneg _;have i1:(j:Int)<(n:Int):=by omega
    by_cases hxy:x=y
    ·have HX:=Hd hxj
     have HY:=Hd hyj;have HXY:=Hd hxy;have hb:(x != y)=false:=by simp[hxy]
     have hb2:(x==y)=true:=by simp[hxy]
     clear hxj hyj hxy;go_wp2_with fail
     go_quiet (fail)
     go_wp2
     go_roundw
     case rel =>
      refine⟨j+1,by omega,by go_num,?_,below_drewN hbr _⟩;rw[List.take_add_one,List.take_add_one,HX.out,HY.out,HE.out,HXY.out]
     case measure=>simp[intOf];omega
    ·have HF:=Hd (eqB_at hxj hyj hxy)
     have hb:(x != y)=true:=by simp[hxy]
     have hb2:(x==y)=false:=by simp[hxy]
     clear hxj hyj hxy;go_wp2_with fail
     go_quiet (fail)
     go_wp2
     go_ret;exact⟨ret_bool HF.out.symm,below_drewN hbr _⟩
   ·have HT:Hid (eqB xs ys=true):=by
     have h:=HE.out;rw[List.take_of_length_le (by omega),List.take_of_length_le (by omega)]at h;exact decide_eq_true h
    go_wp2
    go_ret;exact⟨ret_bool HT.out.symm,hbr⟩
 ·have HF:=Hd (eqB_len (xs:=xs) (ys:=ys) (by omega))
  have hb:((n:Int) != (m:Int))=true:=by simp;omega
  have hb2:((n:Int)==(m:Int))=false:=by simp;omega
  clear hnm
  go_enter Tryz.func20,Tryz.ntmps20
  go_wp2
  go_ret;exact⟨ret_bool HF.out.symm,Below.refl _ _⟩
theorem equalI_any (A C:Option Addr)(n m a c:Nat)(xs ys:List Int)(w:World)(hn:n≤9223372036854775807)(hm:m≤9223372036854775807)(hx:Reads w w.heap.size 1 A n (nums xs))(hy:Reads w w.heap.size 1 C m (nums ys)) :
 Calls Tryz.prog 18 #[.slice A n a,.slice C m c] w fun e w'=>e = .returned (.bool (eqB xs ys))∧Below w.heap.size w w':=by
 have hlx:=nums_len hx;have hly:=nums_len hy;by_cases hnm:n=m
 ·subst hnm
  go_enter Tryz.func18,Tryz.ntmps18
  go_wp2
  go_loopw [13] (fun iv wr => ∃j:Nat,j≤n∧iv = .int .i64 j∧xs.take j=ys.take j∧Below w.heap.size w wr) (fun iv _=>n-(intOf iv).toNat)
  case atStart=>exact⟨0,by omega,rfl,rfl,Below.refl _ _⟩
  case round =>
   obtain⟨j,hj,rfl,he,hbr⟩:=hrel;have HE:=Hd he;clear he;by_cases hlt:j<n
   ·obtain⟨ad,x,rfl,_,hxj,hcx⟩:=(hx.lift hbr).num hlt
    obtain⟨ad2,y,rfl,_,hyj,hcy⟩:=(hy.lift hbr).num hlt;have i0:(0:Int)≤(j:Int):=Int.natCast_nonneg _;have i1:(j:Int)<(n:Int):=by omega
    by_cases hxy:x=y
    ·have HX:=Hd hxj
     have HY:=Hd hyj;have HXY:=Hd hxy;have hb:(x != y)=false:=by simp[hxy]
     have hb2:(x==y)=true:=by simp[hxy]
     clear hxj hyj hxy;go_wp2_with fail
     go_quiet (fail)
     go_wp2
     go_roundw
     case rel =>
      refine⟨j+1,by omega,by go_num,?_,below_drewN hbr _⟩;rw[List.take_add_one,List.take_add_one,HX.out,HY.out,HE.out,HXY.out]
     case measure=>simp[intOf];omega
    ·have HF:=Hd (eqB_at hxj hyj hxy)
     have hb:(x != y)=true:=by simp[hxy]
     have hb2:(x==y)=false:=by simp[hxy]
     clear hxj hyj hxy;go_wp2_with fail
     go_quiet (fail)
     go_wp2
     go_ret;exact⟨ret_bool HF.out.symm,below_drewN hbr _⟩
   ·have HT:Hid (eqB xs ys=true):=by
     have h:=HE.out;rw[List.take_of_length_le (by omega),List.take_of_length_le (by omega)]at h;exact decide_eq_true h
    go_wp2
    go_ret;exact⟨ret_bool HT.out.symm,hbr⟩
 ·have HF:=Hd (eqB_len (xs:=xs) (ys:=ys) (by omega))
  have hb:((n:Int) != (m:Int))=true:=by simp;omega
  have hb2:((n:Int)==(m:Int))=false:=by simp;omega
  clear hnm
  go_enter Tryz.func18,Tryz.ntmps18
  go_wp2
  go_ret;exact⟨ret_bool HF.out.symm,Below.refl _ _⟩
theorem same_ref (A C:Option Addr)(n m a c:Nat)(xs ys:List Int)(w:World)(hn:n≤9223372036854775807)(hm:m≤9223372036854775807)(hx:Reads w w.heap.size 1 A n (nums xs))(hy:Reads w w.heap.size 1 C m (nums ys)) :
 Calls Tryz.prog 72 #[.slice A n a,.slice C m c] w fun e w'=>e = .returned (.bool (eqB xs ys))∧Below w.heap.size w w':=by
 have hlx:=nums_len hx;have hly:=nums_len hy;by_cases hnm:n=m
 ·subst hnm
  go_enter Tryz.func72,Tryz.ntmps72
  go_wp2
  go_loopw [13] (fun iv wr => ∃j:Nat,j≤n∧iv = .int .i64 j∧xs.take j=ys.take j∧Below w.heap.size w wr) (fun iv _=>n-(intOf iv).toNat)
  case atStart=>exact⟨0,by omega,rfl,rfl,Below.refl _ _⟩
  case round =>
   obtain⟨j,hj,rfl,he,hbr⟩:=hrel;have HE:=Hd he;clear he;by_cases hlt:j<n
   ·obtain⟨ad,x,rfl,_,hxj,hcx⟩:=(hx.lift hbr).num hlt
    obtain⟨ad2,y,rfl,_,hyj,hcy⟩:=(hy.lift hbr).num hlt;have i0:(0:Int)≤(j:Int):=Int.natCast_nonneg _;have i1:(j:Int)<(n:Int):=by omega
    by_cases hxy:x=y
    ·have HX:=Hd hxj
     have HY:=Hd hyj;have HXY:=Hd hxy;have hb:(x != y)=false:=by simp[hxy]
     have hb2:(x==y)=true:=by simp[hxy]
     clear hxj hyj hxy;go_wp2_with fail
     go_quiet (fail)
     go_wp2
     go_roundw
     case rel =>
      refine⟨j+1,by omega,by go_num,?_,below_drewN hbr _⟩;rw[List.take_add_one,List.take_add_one,HX.out,HY.out,HE.out,HXY.out]
     case measure=>simp[intOf];omega
    ·have HF:=Hd (eqB_at hxj hyj hxy)
     have hb:(x != y)=true:=by simp[hxy]
     have hb2:(x==y)=false:=by simp[hxy]
     clear hxj hyj hxy;go_wp2_with fail
     go_quiet (fail)
     go_wp2
     go_ret;exact⟨ret_bool HF.out.symm,below_drewN hbr _⟩
   ·have HT:Hid (eqB xs ys=true):=by
     have h:=HE.out;rw[List.take_of_length_le (by omega),List.take_of_length_le (by omega)]at h;exact decide_eq_true h
    go_wp2
    go_ret;exact⟨ret_bool HT.out.symm,hbr⟩
 ·have HF:=Hd (eqB_len (xs:=xs) (ys:=ys) (by omega))
  have hb:((n:Int) != (m:Int))=true:=by simp;omega
  have hb2:((n:Int)==(m:Int))=false:=by simp;omega
  clear hnm
  go_enter Tryz.func72,Tryz.ntmps72
  go_wp2
  go_ret;exact⟨ret_bool HF.out.symm,Below.refl _ _⟩
theorem same_quiet (A C:Option Addr)(n m a c:Nat)(xs ys:List Int)(w:World)(hn:n≤9223372036854775807)(hm:m≤9223372036854775807)(hx:Reads w w.heap.size 1 A n (nums xs))(hy:Reads w w.heap.size 1 C m (nums ys)) :
 Calls Tryz.prog 72 #[.slice A n a,.slice C m c] w fun e w'=>e = .returned (.bool (eqB xs ys))∧∃m,w'=w.drewN m:=by
 have hlx:=nums_len hx;have hly:=nums_len hy;by_cases hnm:n=m
 ·subst hnm
  go_enter Tryz.func72,Tryz.ntmps72
  go_wp2
  go_loopw [13] (fun iv wr => ∃j:Nat,j≤n∧iv = .int .i64 j∧xs.take j=ys.take j∧∃m,wr=w.drewN m) (fun iv _=>n-(intOf iv).toNat)
  case atStart=>exact⟨0,by omega,rfl,rfl,0,rfl⟩
  case round =>
   obtain⟨j,hj,rfl,he,hbr⟩:=hrel;have hbb:Below w.heap.size w wr:=by obtain⟨m,rfl⟩:=hbr;exact below_drewN (Below.refl _ _) m
   have HE:=Hd he;clear he;by_cases hlt:j<n
   ·obtain⟨ad,x,rfl,_,hxj,hcx⟩:=(hx.lift hbb).num hlt
    obtain⟨ad2,y,rfl,_,hyj,hcy⟩:=(hy.lift hbb).num hlt;have i0:(0:Int)≤(j:Int):=Int.natCast_nonneg _;have i1:(j:Int)<(n:Int):=by omega
    by_cases hxy:x=y
    ·have HX:=Hd hxj
     have HY:=Hd hyj;have HXY:=Hd hxy;have hb:(x != y)=false:=by simp[hxy]
     have hb2:(x==y)=true:=by simp[hxy]
     clear hxj hyj hxy;go_wp2_with fail
     go_quiet (fail)
     go_wp2
     go_roundw
     case rel =>
      refine⟨j+1,by omega,by go_num,?_,by obtain⟨m,rfl⟩:=hbr;exact⟨_,World.drewN_drewN _ _ _⟩⟩;rw[List.take_add_one,List.take_add_one,HX.out,HY.out,HE.out,HXY.out]
     case measure=>simp[intOf];omega
    ·have HF:=Hd (eqB_at hxj hyj hxy)
     have hb:(x != y)=true:=by simp[hxy]
     have hb2:(x==y)=false:=by simp[hxy]
     clear hxj hyj hxy;go_wp2_with fail
     go_quiet (fail)
     go_wp2
     go_ret;exact⟨ret_bool HF.out.symm,by obtain⟨m,rfl⟩:=hbr;exact⟨_,World.drewN_drewN _ _ _⟩⟩
   ·have HT:Hid (eqB xs ys=true):=by
     have h:=HE.out;rw[List.take_of_length_le (by omega),List.take_of_length_le (by omega)]at h;exact decide_eq_true h
    go_wp2
    go_ret;exact⟨ret_bool HT.out.symm,hbr⟩
 ·have HF:=Hd (eqB_len (xs:=xs) (ys:=ys) (by omega))
  have hb:((n:Int) != (m:Int))=true:=by simp;omega
  have hb2:((n:Int)==(m:Int))=false:=by simp;omega
  clear hnm
  go_enter Tryz.func72,Tryz.ntmps72
  go_wp2
  go_ret;exact⟨ret_bool HF.out.symm,0,rfl⟩
end Go.Proofs.YtjpkkkphhaajgaaGreatDoor.words

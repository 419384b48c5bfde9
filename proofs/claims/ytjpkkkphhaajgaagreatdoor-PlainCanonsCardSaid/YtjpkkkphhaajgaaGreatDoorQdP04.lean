/- a part -/
import Derived.Test.YtjpkkkphhaajgaaGreatDoorQdTakes
import Derived.Test.YtjpkkkphhaajgaaGreatDoorQdP01
import Derived.ProofKit
import Derived.OpenShut
import Derived.Test.YtjpkkkphhaajgaaGreatDoorRows
set_option linter.all false
namespace Go.Proofs.YtjpkkkphhaajgaaGreatDoor.words
open ChangeShapes WideShapes ChangeAt RowKit
def badS (a:Int):Bool:=decide (a<1∨32<a)
def Found (xs:List Int)(e:Ending):Prop := ∃r:Int,e = .returned (.int .i64 r)∧(0≤r↔∃a∈xs,badS a=true)
def anyBad (xs:List Int):Bool:=xs.any badS
theorem bad_any (a:Int)(w:World):Calls Tryz.prog 128 #[.int .i64 a] w fun e w'=>e = .returned (.bool (badS a))∧w=w':=by
 by_cases h1:a<1
 ·have e:badS a=true:=decide_eq_true (.inl h1)
  rw[e];clear e
  go_enter Tryz.func128,Tryz.ntmps128
  go_wp2
  go_ret;exact⟨rfl,rfl⟩
 ·have e:badS a=decide (32<a):=by unfold badS;simp[h1]
  rw[e];clear e
  go_enter Tryz.func128,Tryz.ntmps128
  go_wp2
  go_ret;exact⟨rfl,rfl⟩
theorem index_fn (A:Option Addr)(n cap:Nat)(xs:List Int)(w:World)(hn:n≤maxLen)(hr:Reads w w.heap.size 1 A n (nums xs)) :
 Calls Tryz.prog 141 #[.slice A n cap,.func (.func 128) #[] #[]] w fun e w'=>Found xs e∧w=w':=by
 unfold maxLen at hn;have hlen:=nums_len hr
 go_enter Tryz.func141,Tryz.ntmps141
 go_wp2_with fail
 go_loop [8] (fun i => ∃j:Nat,j≤n∧i = .int .i64 j∧∀a∈xs.take j,badS a=false) (fun i=>n-(intOf i).toNat)
 case atStart=>exact⟨0,by omega,rfl,by simp⟩
 case round =>
  obtain⟨j,hj,rfl,hall⟩:=hrel;by_cases hlt:j<n
  ·obtain⟨ad,x,rfl,_,hx,hc⟩:=hr.num hlt
   cases hb:badS x with
   | false =>
     have HA:=Hd hall;clear hall
     go_wp2_with (first
      |(go_at_call 128;(with_reducible refine (bad_any _ _).mono ?_);rintro e w' ⟨rfl,rfl⟩))
     go_round
     case rel =>
      refine⟨j+1,by omega,by go_num,?_⟩;rw[List.take_add_one,hx];intro a ha;simp only[List.mem_append,Option.toList_some,List.mem_singleton]at ha;rcases ha with ha | rfl
      ·exact HA.out a ha
      ·exact hb
     case measure=>simp[intOf];omega
   | true =>
     have HA:=Hd hall;clear hall
     go_wp2_with (first
      |(go_at_call 128;(with_reducible refine (bad_any _ _).mono ?_);rintro e w' ⟨rfl,rfl⟩))
     go_ret
     exact⟨⟨(j:Int),rfl,by
      constructor
      ·intro _;exact⟨x,List.mem_of_getElem? hx,hb⟩
      ·intro _;omega⟩,rfl⟩
  ·have HA:=Hd hall
   clear hall
   go_wp2
   go_ret;refine⟨⟨-1,rfl,?_⟩,rfl⟩;constructor
   ·intro h;omega
   ·rintro ⟨a,ha,hf⟩
    have:=HA.out a (by rw[List.take_of_length_le (by omega)];exact ha);rw[this]at hf;cases hf
theorem contains_fn (A:Option Addr)(n cap:Nat)(xs:List Int)(w:World)(hn:n≤maxLen)(hr:Reads w w.heap.size 1 A n (nums xs)) :
 Calls Tryz.prog 94 #[.slice A n cap,.func (.func 128) #[] #[]] w fun e w'=>e = .returned (.bool (anyBad xs))∧w=w':=by
 have hi:=fun w hr=>index_fn A n cap xs w hn hr
 cases hall:anyBad xs with
 | true =>
   have hA:∃a∈xs,badS a=true:=by unfold anyBad at hall;rw[List.any_eq_true]at hall;exact hall
   have HA:=Hd hA;clear hA hall
   go_enter Tryz.func94,Tryz.ntmps94
   go_wp2_with (first
    |(go_at_call 141;(with_reducible refine (hi _ hr).mono ?_);rintro e w' ⟨⟨r,rfl,hf⟩,rfl⟩;have hr0:0≤r:=hf.2 HA.out;clear hf))
   go_ret
   exact⟨ret_bool (by simp),rfl⟩
 | false =>
   have hA:∀a∈xs,badS a=false:=by unfold anyBad at hall;rw[List.any_eq_false]at hall;simpa using hall
   have HA:=Hd hA;clear hA hall
   go_enter Tryz.func94,Tryz.ntmps94
   go_wp2_with (first
    |(go_at_call 141;(with_reducible refine (hi _ hr).mono ?_);rintro e w' ⟨⟨r,rfl,hf⟩,rfl⟩;have hr0:¬ 0≤r:=(fun h=>by obtain⟨a,ha,hb⟩:=hf.1 h;rw[HA.out a ha]at hb;cases hb);clear hf))
   go_ret;exact⟨ret_bool (by simp[hr0]),rfl⟩
theorem bad_any_r (a:Int)(w:World):Calls Tryz.prog 92 #[.int .i64 a] w fun e w'=>e = .returned (.bool (badS a))∧w=w':=by
 by_cases h1:a<1
 ·have e:badS a=true:=decide_eq_true (.inl h1)
  rw[e];clear e
  go_enter Tryz.func92,Tryz.ntmps92
  go_wp2
  go_ret;exact⟨rfl,rfl⟩
 ·have e:badS a=decide (32<a):=by unfold badS;simp[h1]
  rw[e];clear e
  go_enter Tryz.func92,Tryz.ntmps92
  go_wp2
  go_ret;exact⟨rfl,rfl⟩
theorem index_fn_r (A:Option Addr)(n cap:Nat)(xs:List Int)(w:World)(hn:n≤maxLen)(hr:Reads w w.heap.size 1 A n (nums xs)) :
 Calls Tryz.prog 141 #[.slice A n cap,.func (.func 92) #[] #[]] w fun e w'=>Found xs e∧w=w':=by
 unfold maxLen at hn;have hlen:=nums_len hr
 go_enter Tryz.func141,Tryz.ntmps141
 go_wp2_with fail
 go_loop [8] (fun i => ∃j:Nat,j≤n∧i = .int .i64 j∧∀a∈xs.take j,badS a=false) (fun i=>n-(intOf i).toNat)
 case atStart=>exact⟨0,by omega,rfl,by simp⟩
 case round =>
  obtain⟨j,hj,rfl,hall⟩:=hrel;by_cases hlt:j<n
  ·obtain⟨ad,x,rfl,_,hx,hc⟩:=hr.num hlt
   cases hb:badS x with
   | false =>
     have HA:=Hd hall;clear hall
     go_wp2_with (first
      |(go_at_call 92;(with_reducible refine (bad_any_r _ _).mono ?_);rintro e w' ⟨rfl,rfl⟩))
     go_round
     case rel =>
      refine⟨j+1,by omega,by go_num,?_⟩;rw[List.take_add_one,hx];intro a ha;simp only[List.mem_append,Option.toList_some,List.mem_singleton]at ha;rcases ha with ha | rfl
      ·exact HA.out a ha
      ·exact hb
     case measure=>simp[intOf];omega
   | true =>
     have HA:=Hd hall;clear hall
     go_wp2_with (first
      |(go_at_call 92;(with_reducible refine (bad_any_r _ _).mono ?_);rintro e w' ⟨rfl,rfl⟩))
     go_ret
     exact⟨⟨(j:Int),rfl,by
      constructor
      ·intro _;exact⟨x,List.mem_of_getElem? hx,hb⟩
      ·intro _;omega⟩,rfl⟩
  ·have HA:=Hd hall
   clear hall
   go_wp2
   go_ret;refine⟨⟨-1,rfl,?_⟩,rfl⟩;constructor
   ·intro h;omega
   ·rintro ⟨a,ha,hf⟩
    have:=HA.out a (by rw[List.take_of_length_le (by omega)];exact ha);rw[this]at hf;cases hf
theorem contains_fn_r (A:Option Addr)(n cap:Nat)(xs:List Int)(w:World)(hn:n≤maxLen)(hr:Reads w w.heap.size 1 A n (nums xs)) :
 Calls Tryz.prog 94 #[.slice A n cap,.func (.func 92) #[] #[]] w fun e w'=>e = .returned (.bool (anyBad xs))∧w=w':=by
 have hi:=fun w hr=>index_fn_r A n cap xs w hn hr
 cases hall:anyBad xs with
 | true =>
   have hA:∃a∈xs,badS a=true:=by unfold anyBad at hall;rw[List.any_eq_true]at hall;exact hall
   have HA:=Hd hA;clear hA hall
   go_enter Tryz.func94,Tryz.ntmps94
   go_wp2_with (first
    |(go_at_call 141;(with_reducible refine (hi _ hr).mono ?_);rintro e w' ⟨⟨r,rfl,hf⟩,rfl⟩;have hr0:0≤r:=hf.2 HA.out;clear hf))
   go_ret
   exact⟨ret_bool (by simp),rfl⟩
 | false =>
   have hA:∀a∈xs,badS a=false:=by unfold anyBad at hall;rw[List.any_eq_false]at hall;simpa using hall
   have HA:=Hd hA;clear hA hall
   go_enter Tryz.func94,Tryz.ntmps94
   go_wp2_with (first
    |(go_at_call 141;(with_reducible refine (hi _ hr).mono ?_);rintro e w' ⟨⟨r,rfl,hf⟩,rfl⟩;have hr0:¬ 0≤r:=(fun h=>by obtain⟨a,ha,hb⟩:=hf.1 h;rw[HA.out a ha]at hb;cases hb);clear hf))
   go_ret;exact⟨ret_bool (by simp[hr0]),rfl⟩
theorem infoI:(Tryz.prog.info? 3).map (fun i=>(i.zero,i.size,i.bytes))=some (some (.int .i64 0),1,8):=by kernel_rfl
def Copied (w:World)(xs:List Int)(e:Ending)(w':World):Prop := ∃A c,e = .returned (.slice A xs.length c)∧w'.ownsRow w.heap.size 3 1 (.slice A xs.length c) xs.length (nums xs)∧Below w.heap.size w w'
theorem clone_any (A:Option Addr)(n cap:Nat)(xs:List Int)(w:World)(hn:n≤17592186044415)(hr:Reads w w.heap.size 1 A n (nums xs)) :
 Calls Tryz.prog 13 #[.slice A n cap] w fun e w'=>Copied w xs e w':=by
 obtain⟨i0,hi0,hz0,hz1,hz2⟩:=info_parts infoI;have hlen:=nums_len hr;have hnil:=fun w a n c n' c'=>Lib.run_eql_slice_nil (P:=Tryz.prog) w 31 3 a n c n' c' Tryz.underlying31
 cases A with
 | none =>
   have hn0:n=0:=by
    rcases Nat.eq_zero_or_pos n with h | h
    ·exact h
    ·obtain⟨ad,h,_⟩:=hr.2 h;cases h
   subst hn0;have hx:xs = []:=List.eq_nil_of_length_eq_zero hlen;subst hx
   go_enter Tryz.func13,Tryz.ntmps13
   go_wp2
   go_ret
   exact⟨_,_,rfl,World.ownsRow_nil _ _ _ _,Below.refl _ _⟩
 | some ad =>
   have hlit:=World.ownsRow_lit (base:=w.heap.size) (e:=3) (size:=1) w #[] 0 (Nat.le_refl _) (by unfold maxLen;omega) rfl;have hr1:=hr.alloc (Nat.le_refl _) (.cells #[] 3)
   go_enter Tryz.func13,Tryz.ntmps13
   go_wp2_with (first
    |(at_builtin;refine wpList_append_any _ rfl (.tmp 5) (.tmp 6) _ rfl w.heap.size 3 i0 _ 1 8 Tryz.underlying31 hi0 hz0 hz1 hz2 rfl (by omega) _ 0 [] rfl hlit w.heap.size (some ad) n cap (nums xs) rfl hr1 nums_one (by simp only[maxLen];omega) (by omega) (by simp) ?_;intro v1 w1 hown hg1 _))
   go_ret;have hg2:(w.alloc (.cells #[] 3)).grownBy w1 (some w.heap.size):=hg1;obtain⟨A1,c1,rfl⟩:=own_shape hown;rw[Nat.zero_add,List.nil_append]at hown;rw[Nat.zero_add];refine⟨A1,c1,by rw[hlen];rfl,by rw[hlen];exact hown,((Below.refl _ _).alloc (Nat.le_refl _) _).grown hg2 (by simp) (by simp)⟩
end Go.Proofs.YtjpkkkphhaajgaaGreatDoor.words
namespace Go.Proofs.YtjpkkkphhaajgaaGreatDoor.words
open Go RowKit ChangeShapes WideShapes ChangeAt
theorem take_snoc64 {L:List Int}{j:Nat}{x:Int}(h:L[j]?=some x):L.take (j+1)=L.take j ++ [x]:=by rw[List.take_add_one,h];rfl
theorem index64_any (A:Option Addr)(n c:Nat)(L:List Int)(v:Int)(w:World)(hn:n≤9223372036854775807)(hr:Reads w w.heap.size 1 A n (nums L)) :
 Calls Tryz.prog 190 #[.slice A n c,.int .i64 v] w fun e w'=>(∃r:Int,e = .returned (.int .i64 r)∧decide (0≤r)=decide (v∈L))∧Below w.heap.size w w':=by
 have hl:=nums_len hr
 go_enter Tryz.func190,Tryz.ntmps190
 go_wp2_with fail
 go_loopw [8] (fun jv wr => ∃j:Nat,jv = .int .i64 j∧j≤n∧v∉L.take j∧Below w.heap.size w wr) (fun jv _=>n-(intOf jv).toNat)
 case atStart=>exact⟨0,rfl,Nat.zero_le _,by simp,Below.refl _ _⟩
 case round =>
  obtain⟨j,rfl,hj,hno,hb⟩:=hrel;by_cases hlt:j<n
  ·obtain⟨ad,x,rfl,_,hx,hc⟩:=(hr.below hb).num hlt
   by_cases hxv:v=x
   ·subst hxv
    have hin:decide (v∈L)=true:=decide_eq_true (List.mem_of_getElem? hx);have HI:=Hd hin;have hbb:(v==v)=true:=by simp
    clear hr hno hx hin hl;go_wp2_with fail;go_ret;exact⟨⟨j,rfl,by rw[HI.out];exact decide_eq_true (Int.natCast_nonneg _)⟩,hb⟩
   ·have hne:(v==x)=false:=by simpa using hxv
    have H2:Hid (v∉L.take (j+1)):=by
     show v∉L.take (j+1);rw[take_snoc64 hx];intro h;rcases List.mem_append.1 h with h | h
     ·exact hno h
     ·simp at h;exact hxv h
    clear hno hx hxv;go_wp2_with fail;go_roundw
    case rel=>exact⟨j+1,by go_num,by omega,H2.out,hb⟩
    case measure=>simp[intOf];omega
  ·obtain rfl:n=j:=by omega
   have H2:Hid (decide (v∈L)=false):=by
    rw[List.take_of_length_le (by omega)]at hno;exact decide_eq_false hno
   clear hr hno;go_wp2_with fail;go_ret;exact⟨⟨-1,rfl,by rw[H2.out];rfl⟩,hb⟩
theorem has64_any (A:Option Addr)(n c:Nat)(L:List Int)(v:Int)(w:World)(hn:n≤9223372036854775807)(hr:Reads w w.heap.size 1 A n (nums L)) :
 Calls Tryz.prog 173 #[.slice A n c,.int .i64 v] w fun e w'=>e = .returned (.bool (decide (v∈L)))∧Below w.heap.size w w':=by
 have hi:=index64_any A n c L v w hn hr;clear hr
 go_enter Tryz.func173,Tryz.ntmps173
 go_wp2_with fail;refine hi.mono ?_;rintro e w1 ⟨⟨r,rfl,hd⟩,hb⟩;have HD:=Hd hd;clear hi hd;go_wp2_with fail;go_ret;exact⟨ret_bool HD.out,hb⟩
end Go.Proofs.YtjpkkkphhaajgaaGreatDoor.words
namespace Go.Proofs.YtjpkkkphhaajgaaGreatDoor.wcp
open Go RowKit ChangeShapes WideShapes ChangeAt words scn
def capped (l:List Int)(n:Int):Int:=l.foldl (fun n k=>min (n*min k 4097) 4097) n
theorem capped_top {l:List Int}(h:∀k∈l,1≤k):capped l 4097=4097:=by
 induction l with
 |nil=>rfl
 | cons k l ih =>
   have hk:=h k (by simp);unfold capped at ih ⊢;rw[List.foldl_cons,show min ((4097:Int)*min k 4097) 4097=4097 by omega];exact ih fun x hx=>h x (by simp[hx])
theorem great_is (l:List Int):great l=decide (capped l 1>4096):=rfl
theorem great_stop {l r:List Int}{k n:Int}(h:∀x∈r,1≤x)(hn:capped l 1=n)(h1:n*min k 4097>4096):great (l++k::r)=true:=by
 rw[great_is];refine decide_eq_true ?_
 have:capped (l++k::r) 1=4097:=by
  unfold capped at hn ⊢;rw[List.foldl_append,hn,List.foldl_cons,show min (n*min k 4097) 4097=4097 by omega];exact capped_top h
 rw[this];decide
theorem great_go {l:List Int}{k n:Int}(hn:capped l 1=n)(h1:n*min k 4097≤4096):capped (l ++ [k]) 1=n*min k 4097:=by
 unfold capped at hn ⊢;rw[List.foldl_append,hn,List.foldl_cons,List.foldl_nil];omega
theorem great_any (A:Option Addr)(n c:Nat)(xs:List Int)(w:World)(hn:n≤9223372036854775807)(hr:Reads w w.heap.size 1 A n (nums xs))(h1:∀k∈xs,1≤k) :
 Calls Tryz.prog 98 #[.slice A n c] w fun e w'=>e = .returned (.bool (great xs))∧w=w':=by
 have hl:=nums_len hr
 go_enter Tryz.func98,Tryz.ntmps98
 go_wp2_with fail
 go_loopw [3,5,8] (fun nv _ jv wr => ∃ (j:Nat) (p:Int),jv = .int .i64 j∧j≤n∧nv = .int .i64 p∧capped (xs.take j) 1=p∧1≤p∧p≤4096∧w=wr) (fun _ _ jv _=>n-(intOf jv).toNat)
 case atStart=>exact⟨0,1,rfl,Nat.zero_le _,rfl,rfl,by omega,by omega,rfl⟩
 case round =>
  obtain⟨j,p,rfl,hj,rfl,hp,hp1,hp2,rfl⟩:=hrel;by_cases hlt:j<n
  ·obtain⟨ad,x,rfl,_,hx,hc⟩:=hr.num hlt
   have hx1:=h1 x (List.mem_of_getElem? hx)
   have hcut:xs=xs.take j++x::xs.drop (j+1):=by
    have hlj:=(List.getElem?_eq_some_iff.1 hx).1;have h2:=List.drop_eq_getElem_cons hlj;rw[(List.getElem?_eq_some_iff.1 hx).2]at h2;rw[← h2,List.take_append_drop]
   have htk:xs.take (j+1)=xs.take j ++ [x]:=by rw[List.take_add_one,hx];rfl
   have hgs:p*min x 4097>4096→great xs=true:=fun h=>by
    rw[hcut];exact great_stop (fun y hy=>h1 y (List.mem_of_mem_drop hy)) hp h
   have hgg:p*min x 4097≤4096→capped (xs.take (j+1)) 1=p*min x 4097:=fun h=>by rw[htk];exact great_go hp h
   obtain⟨m,hm⟩:∃m,min x 4097=m:=⟨_,rfl⟩;rw[hm]at hgs hgg;have hm1:1≤m∧m≤4097:=by omega
   have hb1:1*1≤p*m:=Int.mul_le_mul hp1 hm1.1 (by omega) (by omega);have hb2:p*m≤4096*4097:=Int.mul_le_mul hp2 hm1.2 (by omega) (by omega);have HS:=Hd hgs;have HG:=Hd hgg;clear hgs hgg hcut htk hx hp hl;by_cases hx4:4097<x
   ·obtain rfl:m=4097:=by omega
    clear hm;by_cases hg:p*4097>4096
    ·have hd:decide (4096<p*4097)=true:=decide_eq_true hg
     go_wp2_with fail;go_ret;exact⟨ret_bool (HS.out hg).symm,by first | rfl | trivial⟩
    ·have hd:decide (4096<p*4097)=false:=decide_eq_false hg
     go_wp2_with fail;go_roundw
     case rel=>exact⟨j+1,p*4097,by go_num,by omega,rfl,HG.out (by omega),by omega,by omega,by first | rfl | trivial⟩
     case measure=>simp[intOf];omega
   ·obtain rfl:m=x:=by omega
    clear hm;by_cases hg:p*m>4096
    ·have hd:decide (4096<p*m)=true:=decide_eq_true hg
     go_wp2_with fail;go_ret;exact⟨ret_bool (HS.out hg).symm,by first | rfl | trivial⟩
    ·have hd:decide (4096<p*m)=false:=decide_eq_false hg
     go_wp2_with fail;go_roundw
     case rel=>exact⟨j+1,p*m,by go_num,by omega,rfl,HG.out (by omega),by omega,by omega,by first | rfl | trivial⟩
     case measure=>simp[intOf];omega
  ·obtain rfl:n=j:=by omega
   have HF:Hid (great xs=false):=by
    rw[List.take_of_length_le (by omega)]at hp;rw[Hid,great_is,hp];exact decide_eq_false (by omega)
   clear hp;go_wp2_with fail;go_ret;exact⟨ret_bool HF.out.symm,by first | rfl | trivial⟩
theorem infoI:(Tryz.prog.info? 3).map (fun i=>(i.zero,i.size,i.bytes))=some (some (.int .i64 0),1,8):=by kernel_rfl
theorem set_part {xs:List Int}{j:Nat}{x:Int}(hx:xs[j]?=some x):(nums (xs.take j++List.replicate (xs.length-j) 0)).set j (.int .i64 x)=nums (xs.take (j+1)++List.replicate (xs.length-(j+1)) 0):=by
 have hl:=(List.getElem?_eq_some_iff.1 hx).1;obtain⟨k,hk⟩:∃k,xs.length-j=k+1:=⟨xs.length-j-1,by omega⟩;have hk':xs.length-(j+1)=k:=by omega
 have ht:(xs.take j).length=j:=by rw[List.length_take];omega
 rw[hk,hk',List.replicate_succ,List.take_add_one,hx];unfold nums;rw[show (Value.int .i64 x)=(fun (x:Int)=>Value.int .i64 x) x from rfl,← List.map_set,List.set_append_right _ _ (by omega),ht,Nat.sub_self];simp
theorem nums_rep (n:Nat):(madeCells #[.int .i64 0] n).toList=nums (List.replicate n 0):=by
 rw[toList_madeCells_one];unfold nums;rw[List.map_replicate]
set_option maxRecDepth 100000 in
set_option maxHeartbeats 4000000 in
theorem ints_any (A:Option Addr)(n c:Nat)(xs:List Int)(w:World)(hn:n≤1000000)(hr:Reads w w.heap.size 1 A n (nums xs)) :
 Calls Tryz.prog 82 #[.slice A n c] w fun e w'=>e = .returned (.slice (some ⟨w.heap.size,0,none⟩) n n)∧w'.ownsRow w.heap.size 3 1 (.slice (some ⟨w.heap.size,0,none⟩) n n) n (nums xs)∧Below w.heap.size w w':=by
 obtain⟨i0,hi0,hz0,hz1,hz2⟩:=info_parts infoI;have hl:=nums_len hr;have hmk:=fun W=>run_make_rowN (P:=Tryz.prog) 31 3 i0 _ Tryz.underlying31 hi0 hz0 .i64 .i64 n n (Nat.le_refl _) (by rw[hz2];omega) (by omega) W
 go_enter Tryz.func82,Tryz.ntmps82
 go_wp2_with fail
 have hown:(w.alloc (.cells (madeCells #[.int .i64 0] n) 3)).ownsRow w.heap.size 3 1 (.slice (some ⟨w.heap.size,0,none⟩) n n) n (nums (xs.take 0++List.replicate (xs.length-0) 0)):=by
  rw[List.take_zero,List.nil_append,Nat.sub_zero,hl,← nums_rep];exact World.ownsRow_lit w _ n (Nat.le_refl _) (by unfold maxLen;omega) (by simp[madeCells])
 have hb0:=bone w (.cells (madeCells #[.int .i64 0] n) 3);clear hmk
 go_loopw [4,5,11] (fun _ _ iv wr => ∃j:Nat,iv = .int .i64 j∧j≤n∧wr.ownsRow w.heap.size 3 1 (.slice (some ⟨w.heap.size,0,none⟩) n n) n (nums (xs.take j++List.replicate (xs.length-j) 0))∧Below w.heap.size w wr) (fun _ _ iv _=>n-(intOf iv).toNat)
 case atStart=>exact⟨0,rfl,Nat.zero_le _,hown,hb0⟩
 case round =>
  clear hown hb0;obtain⟨j,rfl,hj,ho,hb⟩:=hrel;by_cases hlt:j<n
  ·obtain⟨ad,x,rfl,_,hx,hc⟩:=(hr.below hb).num hlt
   have hf:=ho.frozenAt j;obtain⟨u,hu⟩:∃u,(nums (xs.take j++List.replicate (xs.length-j) 0))[j]?=some u:=⟨_,List.getElem?_eq_getElem (by simp[nums];omega)⟩;have hcj:=(ho.cellAt j (by omega)).trans hu;clear hu;have HS:=Hd (set_part hx);have HO:=Hd ho;clear hx hl;go_wp2_with fail;go_roundw
   case rel=>exact⟨j+1,by go_num,by omega,by rw[← HS.out];exact (HO.out.stored j _).1,hb.setCell (p:=⟨w.heap.size,j,none⟩) (Nat.le_refl _) _⟩
   case measure=>simp[intOf];omega
  ·obtain rfl:n=j:=by omega
   rw[List.take_of_length_le (by omega),show xs.length-n=0 by omega,List.replicate_zero,List.append_nil]at ho;clear hl;go_wp2_with fail;go_ret;exact⟨rfl,ho,hb⟩
end Go.Proofs.YtjpkkkphhaajgaaGreatDoor.wcp
namespace Go.Proofs.YtjpkkkphhaajgaaGreatDoor.words
open Go RowKit ChangeShapes WideShapes ChangeAt
theorem take_snocI {L:List Int}{j:Nat}{x:Int}(h:L[j]?=some x):L.take (j+1)=L.take j ++ [x]:=by rw[List.take_add_one,h];rfl
theorem indexI_any (A:Option Addr)(n c:Nat)(L:List Int)(v:Int)(w:World)(hn:n≤9223372036854775807)(hr:Reads w w.heap.size 1 A n (nums L)) :
 Calls Tryz.prog 101 #[.slice A n c,.int .i64 v] w fun e w'=>(∃r:Int,e = .returned (.int .i64 r)∧((∃m:Nat,r=m∧L[m]?=some v∧v∉L.take m)∨(r = -1∧v∉L)))∧Below w.heap.size w w':=by
 have hl:=nums_len hr
 go_enter Tryz.func101,Tryz.ntmps101
 go_wp2_with fail
 go_loopw [8] (fun jv wr => ∃j:Nat,jv = .int .i64 j∧j≤n∧v∉L.take j∧Below w.heap.size w wr) (fun jv _=>n-(intOf jv).toNat)
 case atStart=>exact⟨0,rfl,Nat.zero_le _,by simp,Below.refl _ _⟩
 case round =>
  obtain⟨j,rfl,hj,hno,hb⟩:=hrel;by_cases hlt:j<n
  ·obtain⟨ad,x,rfl,_,hx,hc⟩:=(hr.below hb).num hlt
   by_cases hxv:v=x
   ·subst hxv
    have HI:Hid (L[j]?=some v∧v∉L.take j):=⟨hx,hno⟩;have hbb:(v==v)=true:=by simp
    clear hr hno hx hl;go_wp2_with fail;go_ret;exact⟨⟨j,rfl,.inl ⟨j,rfl,HI.out⟩⟩,hb⟩
   ·have hne:(v==x)=false:=by simpa using hxv
    have H2:Hid (v∉L.take (j+1)):=by
     show v∉L.take (j+1);rw[take_snocI hx];intro h;rcases List.mem_append.1 h with h | h
     ·exact hno h
     ·simp at h;exact hxv h
    clear hno hx hxv;go_wp2_with fail;go_roundw
    case rel=>exact⟨j+1,by go_num,by omega,H2.out,hb⟩
    case measure=>simp[intOf];omega
  ·obtain rfl:n=j:=by omega
   have H2:Hid (v∉L):=by
    rw[List.take_of_length_le (by omega)]at hno;exact hno
   clear hr hno;go_wp2_with fail;go_ret;exact⟨⟨-1,rfl,.inr ⟨rfl,H2.out⟩⟩,hb⟩
end Go.Proofs.YtjpkkkphhaajgaaGreatDoor.words
namespace Go.Proofs.YtjpkkkphhaajgaaGreatDoor.shp
open ChangeShapes WideShapes ChangeAt RowKit words
set_option maxRecDepth 100000
def prodI (xs:List Int):Int:=xs.foldl (fun n k=>n*k) 1
theorem fold_mul (xs:List Int)(n:Int):xs.foldl (fun n k=>n*k) n=n*prodI xs:=by
 unfold prodI
 induction xs generalizing n with
 |nil=>simp
 |cons x xs ih=>rw[List.foldl_cons,List.foldl_cons,ih (n*x),ih (1*x),Int.one_mul,Int.mul_assoc]
theorem prodI_cons (x:Int)(xs:List Int):prodI (x::xs)=x*prodI xs:=by
 rw[prodI,List.foldl_cons,fold_mul,Int.one_mul]
theorem prodI_append (xs ys:List Int):prodI (xs++ys)=prodI xs*prodI ys:=by
 rw[prodI,List.foldl_append,fold_mul];rfl
theorem prod_snoc (xs:List Int)(j:Nat)(x:Int)(h:xs[j]?=some x):prodI (xs.take (j+1))=prodI (xs.take j)*x:=by
 rw[List.take_add_one,h,prodI_append];simp[prodI]
def Szs (xs:List Int):Prop:=xs.length≤6∧∀k∈xs,1≤k∧k≤32
theorem prod_bd (xs:List Int)(h:∀k∈xs,1≤k∧k≤32):1≤prodI xs∧prodI xs≤32 ^ xs.length:=by
 induction xs with
 |nil=>exact⟨by decide,by decide⟩
 | cons x xs ih =>
   obtain⟨h1,h2⟩:=h x (List.mem_cons_self ..);obtain⟨i1,i2⟩:=ih fun k hk=>h k (List.mem_cons_of_mem _ hk)
   rw[prodI_cons,List.length_cons,Int.pow_succ];refine⟨?_,?_⟩
   ·have:1*1≤x*prodI xs:=Int.mul_le_mul h1 i1 (by omega) (by omega)
    omega
   ·have:x*prodI xs≤32*32 ^ xs.length:=Int.mul_le_mul h2 i2 (by omega) (by omega)
    rw[Int.mul_comm (32 ^ xs.length) 32];exact this
theorem szs_prod {xs:List Int}(h:Szs xs):1≤prodI xs∧prodI xs≤1073741824:=by
 obtain⟨h1,h2⟩:=prod_bd xs h.2;refine⟨h1,Int.le_trans h2 ?_⟩;have:(32:Int) ^ xs.length≤32 ^ 6:=by exact_mod_cast Nat.pow_le_pow_right (by omega) h.1
 exact this
theorem szs_take {xs:List Int}(h:Szs xs)(j:Nat):Szs (xs.take j):=⟨by have:=h.1;simp;omega,fun k hk=>h.2 k (List.mem_of_mem_take hk)⟩
theorem szs_drop {xs:List Int}(h:Szs xs)(j:Nat):Szs (xs.drop j):=⟨by have:=h.1;simp;omega,fun k hk=>h.2 k (List.mem_of_mem_drop hk)⟩
theorem count_any (A:Option Addr)(n cap:Nat)(xs:List Int)(w:World)(hr:Reads w w.heap.size 1 A n (nums xs))(hz:Szs xs) :
 Calls Tryz.prog 121 #[.agg #[.slice A n cap]] w fun e w'=>e = .returned (.int .i64 (prodI xs))∧Below w.heap.size w w':=by
 have hlen:=nums_len hr;have hn:n≤6:=by have:=hz.1;omega
 have hr1:Reads (w.alloc (.cells #[.slice A n cap] 115)) w.heap.size 1 A n (nums xs):=hr.alloc (Nat.le_refl _) _
 go_enter Tryz.func121,Tryz.ntmps121
 go_wp2
 go_loop [3,9] (fun s i => ∃j:Nat,j≤n∧i = .int .i64 j∧s = .int .i64 (prodI (xs.take j))) (fun _ i=>n-(intOf i).toNat)
 case atStart=>exact⟨0,by omega,rfl,rfl⟩
 case round =>
  obtain⟨j,hj,rfl,rfl⟩:=hrel;have hs:=szs_prod (szs_take hz j);by_cases hlt:j<n
  ·obtain⟨ad,x,rfl,_,hx,hc⟩:=hr1.num hlt
   obtain⟨x1,x2⟩:=hz.2 x (List.mem_of_getElem? hx);have HS:=Hd (prod_snoc xs j x hx);have hb:=szs_prod (szs_take hz (j+1));rw[HS.out]at hb
   go_wp2
   go_round
   case rel=>exact⟨j+1,by omega,by go_num,by rw[HS.out]⟩
   case measure=>simp[intOf];omega
  ·have hjn:n≤j:=by omega
   go_wp2
   go_ret;exact⟨ret_int (by rw[List.take_of_length_le (by omega)]),(Below.refl _ _).alloc (Nat.le_refl _) _⟩
def badS (a:Int):Bool:=decide (a<1∨32<a)
theorem bad_any (a:Int)(w:World):Calls Tryz.prog 163 #[.int .i64 a] w fun e w'=>e = .returned (.bool (badS a))∧w=w':=by
 by_cases h1:a<1
 ·have e:badS a=true:=decide_eq_true (.inl h1)
  rw[e];clear e
  go_enter Tryz.func163,Tryz.ntmps163
  go_wp2
  go_ret;exact⟨rfl,rfl⟩
 ·have e:badS a=decide (32<a):=by unfold badS;simp[h1]
  rw[e];clear e
  go_enter Tryz.func163,Tryz.ntmps163
  go_wp2
  go_ret;exact⟨rfl,rfl⟩
def Found (xs:List Int)(e:Ending):Prop := ∃r:Int,e = .returned (.int .i64 r)∧(0≤r↔∃a∈xs,badS a=true)
theorem index_fn (A:Option Addr)(n cap:Nat)(xs:List Int)(w:World)(hn:n≤maxLen)(hr:Reads w w.heap.size 1 A n (nums xs)) :
 Calls Tryz.prog 141 #[.slice A n cap,.func (.func 163) #[] #[]] w fun e w'=>Found xs e∧w=w':=by
 unfold maxLen at hn;have hlen:=nums_len hr
 go_enter Tryz.func141,Tryz.ntmps141
 go_wp2_with fail
 go_loop [8] (fun i => ∃j:Nat,j≤n∧i = .int .i64 j∧∀a∈xs.take j,badS a=false) (fun i=>n-(intOf i).toNat)
 case atStart=>exact⟨0,by omega,rfl,by simp⟩
 case round =>
  obtain⟨j,hj,rfl,hall⟩:=hrel;by_cases hlt:j<n
  ·obtain⟨ad,x,rfl,_,hx,hc⟩:=hr.num hlt
   cases hb:badS x with
   | false =>
     have HA:=Hd hall;clear hall
     go_wp2_with (first
      |(go_at_call 163;(with_reducible refine (bad_any _ _).mono ?_);rintro e w' ⟨rfl,rfl⟩))
     go_round
     case rel =>
      refine⟨j+1,by omega,by go_num,?_⟩;rw[List.take_add_one,hx];intro a ha;simp only[List.mem_append,Option.toList_some,List.mem_singleton]at ha;rcases ha with ha | rfl
      ·exact HA.out a ha
      ·exact hb
     case measure=>simp[intOf];omega
   | true =>
     have HA:=Hd hall;clear hall
     go_wp2_with (first
      |(go_at_call 163;(with_reducible refine (bad_any _ _).mono ?_);rintro e w' ⟨rfl,rfl⟩))
     go_ret
     exact⟨⟨(j:Int),rfl,by
      constructor
      ·intro _;exact⟨x,List.mem_of_getElem? hx,hb⟩
      ·intro _;omega⟩,rfl⟩
  ·have HA:=Hd hall
   clear hall
   go_wp2
   go_ret;refine⟨⟨-1,rfl,?_⟩,rfl⟩;constructor
   ·intro h;omega
   ·rintro ⟨a,ha,hf⟩
    have:=HA.out a (by rw[List.take_of_length_le (by omega)];exact ha);rw[this]at hf;cases hf
def anyBad (xs:List Int):Bool:=xs.any badS
theorem contains_fn (A:Option Addr)(n cap:Nat)(xs:List Int)(w:World)(hn:n≤maxLen)(hr:Reads w w.heap.size 1 A n (nums xs)) :
 Calls Tryz.prog 94 #[.slice A n cap,.func (.func 163) #[] #[]] w fun e w'=>e = .returned (.bool (anyBad xs))∧w=w':=by
 have hi:=fun w hr=>index_fn A n cap xs w hn hr
 cases hall:anyBad xs with
 | true =>
   have hA:∃a∈xs,badS a=true:=by unfold anyBad at hall;rw[List.any_eq_true]at hall;exact hall
   have HA:=Hd hA;clear hA hall
   go_enter Tryz.func94,Tryz.ntmps94
   go_wp2_with (first
    |(go_at_call 141;(with_reducible refine (hi _ hr).mono ?_);rintro e w' ⟨⟨r,rfl,hf⟩,rfl⟩;have hr0:0≤r:=hf.2 HA.out;clear hf))
   go_ret
   exact⟨ret_bool (by simp),rfl⟩
 | false =>
   have hA:∀a∈xs,badS a=false:=by unfold anyBad at hall;rw[List.any_eq_false]at hall;simpa using hall
   have HA:=Hd hA;clear hA hall
   go_enter Tryz.func94,Tryz.ntmps94
   go_wp2_with (first
    |(go_at_call 141;(with_reducible refine (hi _ hr).mono ?_);rintro e w' ⟨⟨r,rfl,hf⟩,rfl⟩;have hr0:¬ 0≤r:=(fun h=>by obtain⟨a,ha,hb⟩:=hf.1 h;rw[HA.out a ha]at hb;cases hb);clear hf))
   go_ret;exact⟨ret_bool (by simp[hr0]),rfl⟩
theorem infoI:(Tryz.prog.info? 3).map (fun i=>(i.zero,i.size,i.bytes))=some (some (.int .i64 0),1,8):=by kernel_rfl
def Copied (w:World)(xs:List Int)(e:Ending)(w':World):Prop := ∃A c,e = .returned (.slice A xs.length c)∧w'.ownsRow w.heap.size 3 1 (.slice A xs.length c) xs.length (nums xs)∧Below w.heap.size w w'
theorem clone_any (A:Option Addr)(n cap:Nat)(xs:List Int)(w:World)(hn:n≤17592186044415)(hr:Reads w w.heap.size 1 A n (nums xs)) :
 Calls Tryz.prog 13 #[.slice A n cap] w fun e w'=>Copied w xs e w':=by
 obtain⟨i0,hi0,hz0,hz1,hz2⟩:=info_parts infoI;have hlen:=nums_len hr;have hnil:=fun w a n c n' c'=>Lib.run_eql_slice_nil (P:=Tryz.prog) w 31 3 a n c n' c' Tryz.underlying31
 cases A with
 | none =>
   have hn0:n=0:=by
    rcases Nat.eq_zero_or_pos n with h | h
    ·exact h
    ·obtain⟨ad,h,_⟩:=hr.2 h;cases h
   subst hn0;have hx:xs = []:=List.eq_nil_of_length_eq_zero hlen;subst hx
   go_enter Tryz.func13,Tryz.ntmps13
   go_wp2
   go_ret
   exact⟨_,_,rfl,World.ownsRow_nil _ _ _ _,Below.refl _ _⟩
 | some ad =>
   have hlit:=World.ownsRow_lit (base:=w.heap.size) (e:=3) (size:=1) w #[] 0 (Nat.le_refl _) (by unfold maxLen;omega) rfl;have hr1:=hr.alloc (Nat.le_refl _) (.cells #[] 3)
   go_enter Tryz.func13,Tryz.ntmps13
   go_wp2_with (first
    |(at_builtin;refine wpList_append_any _ rfl (.tmp 5) (.tmp 6) _ rfl w.heap.size 3 i0 _ 1 8 Tryz.underlying31 hi0 hz0 hz1 hz2 rfl (by omega) _ 0 [] rfl hlit w.heap.size (some ad) n cap (nums xs) rfl hr1 nums_one (by simp only[maxLen];omega) (by omega) (by simp) ?_;intro v1 w1 hown hg1 _))
   go_ret;have hg2:(w.alloc (.cells #[] 3)).grownBy w1 (some w.heap.size):=hg1;obtain⟨A1,c1,rfl⟩:=own_shape hown;rw[Nat.zero_add,List.nil_append]at hown;rw[Nat.zero_add];refine⟨A1,c1,by rw[hlen];rfl,by rw[hlen];exact hown,((Below.refl _ _).alloc (Nat.le_refl _) _).grown hg2 (by simp) (by simp)⟩
def Made (w:World)(xs:List Int)(e:Ending)(w':World):Prop :=
 Below w.heap.size w w' ∧
 ((¬ Szs xs∧e = .returned (.tuple #[.agg #[.slice none 0 0],.int .i64 1])) ∨
  (Szs xs∧4096<prodI xs∧e = .returned (.tuple #[.agg #[.slice none 0 0],.int .i64 5])) ∨
  (Szs xs∧prodI xs≤4096∧∃A c,e = .returned (.tuple #[.agg #[.slice A xs.length c],.int .i64 0])∧w'.ownsRow w.heap.size 3 1 (.slice A xs.length c) xs.length (nums xs)))
theorem szs_iff (xs:List Int):Szs xs↔xs.length≤6∧anyBad xs=false:=by
 unfold Szs anyBad;rw[List.any_eq_false];simp only[badS,decide_eq_true_eq];constructor
 ·rintro ⟨h1,h2⟩;exact⟨h1,fun k hk=>by have:=h2 k hk;omega⟩
 ·rintro ⟨h1,h2⟩;exact⟨h1,fun k hk=>by have:=h2 k hk;omega⟩
theorem new_any (A:Option Addr)(n cap:Nat)(xs:List Int)(w:World)(hn:n≤17592186044415)(hr:Reads w w.heap.size 1 A n (nums xs)) :
 Calls Tryz.prog 118 #[.slice A n cap] w fun e w'=>Made w xs e w':=by
 have hlen:=nums_len hr;have hr1:∀o:Obj,Reads (w.alloc o) (w.alloc o).heap.size 1 A n (nums xs):=fun o=>(hr.alloc (Nat.le_refl _) _).more (by simp)
 by_cases h6:6<n
 ·have hne:¬ Szs xs:=fun h=>by have:=h.1;omega
  go_enter Tryz.func118,Tryz.ntmps118
  go_wp2
  exact bodyPost_ret (v := .tuple #[.agg #[.slice none 0 0],.int .i64 1]) (by simp[results,Tryz.results118,go_sem]) rfl ⟨(Below.refl _ _).alloc (Nat.le_refl _) _,.inl ⟨hne,rfl⟩⟩
 ·cases hb:anyBad xs with
  | true =>
    have hne:¬ Szs xs:=fun h=>by have:=((szs_iff xs).1 h).2;rw[this]at hb;cases hb
    go_enter Tryz.func118,Tryz.ntmps118
    go_wp2_with (first
     |(go_at_call 94;(with_reducible refine (contains_fn _ _ _ xs _ (by unfold maxLen;omega) (hr1 _)).mono ?_);rintro e w' ⟨rfl,rfl⟩))
    exact bodyPost_ret (v := .tuple #[.agg #[.slice none 0 0],.int .i64 1]) (by simp[results,Tryz.results118,go_sem]) rfl ⟨(Below.refl _ _).alloc (Nat.le_refl _) _,.inl ⟨hne,rfl⟩⟩
  | false =>
    have hsz:Szs xs:=(szs_iff xs).2 ⟨by omega,hb⟩;by_cases h4:4096<prodI xs
    ·go_enter Tryz.func118,Tryz.ntmps118
     go_wp2_with (first
      |(go_at_call 94;(with_reducible refine (contains_fn _ _ _ xs _ (by unfold maxLen;omega) (hr1 _)).mono ?_);rintro e w' ⟨rfl,rfl⟩)
      |(go_at_call 13;(with_reducible refine (clone_any _ _ _ xs _ hn (hr1 _)).mono ?_);rintro e w1 ⟨A1,c1,rfl,hown,hb1⟩;have hrd:∀o:Obj,Reads (w1.alloc o) (w1.alloc o).heap.size 1 A1 n (nums xs):=(fun o=>(((by rw[← hlen];exact Reads.of_own hown:Reads w1 w1.heap.size 1 A1 n (nums xs)).alloc (Nat.le_refl _) _).more (by simp))))
      |(go_at_call 121;(with_reducible refine (count_any _ _ _ xs _ (hrd _) hsz).mono ?_);rintro e w2 ⟨rfl,hb2⟩;obtain⟨hc2,hf2⟩:=((((Blk.new w 115 #[.slice none 0 0]).under hb1).alloc (.cells #[.slice A1 n c1] 115)).under hb2).one;obtain⟨hc1,hf1⟩:=((Blk.new w1 115 #[.slice A1 n c1]).under hb2).one))
     exact bodyPost_ret (v := .tuple #[.agg #[.slice none 0 0],.int .i64 5]) (by simp[results,Tryz.results118,go_sem,hc2]) rfl ⟨(bto (bnew (bto (bone w _) hb1) _) hb2).setCell (Nat.le_refl _) _,.inr (.inl ⟨hsz,h4,rfl⟩)⟩
    ·go_enter Tryz.func118,Tryz.ntmps118
     go_wp2_with (first
      |(go_at_call 94;(with_reducible refine (contains_fn _ _ _ xs _ (by unfold maxLen;omega) (hr1 _)).mono ?_);rintro e w' ⟨rfl,rfl⟩)
      |(go_at_call 13;(with_reducible refine (clone_any _ _ _ xs _ hn (hr1 _)).mono ?_);rintro e w1 ⟨A1,c1,rfl,hown,hb1⟩;have hrd:∀o:Obj,Reads (w1.alloc o) (w1.alloc o).heap.size 1 A1 n (nums xs):=(fun o=>(((by rw[← hlen];exact Reads.of_own hown:Reads w1 w1.heap.size 1 A1 n (nums xs)).alloc (Nat.le_refl _) _).more (by simp))))
      |(go_at_call 121;(with_reducible refine (count_any _ _ _ xs _ (hrd _) hsz).mono ?_);rintro e w2 ⟨rfl,hb2⟩;obtain⟨hc2,hf2⟩:=((((Blk.new w 115 #[.slice none 0 0]).under hb1).alloc (.cells #[.slice A1 n c1] 115)).under hb2).one;obtain⟨hc1,hf1⟩:=((Blk.new w1 115 #[.slice A1 n c1]).under hb2).one))
     have ho:(w2.setCell ⟨w.heap.size,0,none⟩ (.slice A1 n c1)).ownsRow w.heap.size 3 1 (.slice A1 n c1) n (nums xs):=by
      rw[hlen]at hown;exact own_base (ownsRow_setCell_below (own_under (hown.alloc _) hb2) (by simp) _) (by simp)
     refine bodyPost_ret (v := .tuple #[.agg #[.slice A1 n c1],.int .i64 0]) (by simp[results,Tryz.results118,go_sem,hc2]) rfl ⟨(bto (bnew (bto (bone w _) hb1) _) hb2).setCell (Nat.le_refl _) _,.inr (.inr ⟨hsz,h4,A1,c1,by rw[hlen],?_⟩)⟩;rw[hlen];exact ho
theorem arity_any (A:Option Addr)(n cap:Nat)(w:World)(_hn:n≤9223372036854775807) :
 Calls Tryz.prog 147 #[.agg #[.slice A n cap]] w fun e w'=>e = .returned (.int .i64 n)∧Below w.heap.size w w':=by
 go_enter Tryz.func147,Tryz.ntmps147
 go_wp2
 go_ret;exact⟨rfl,bone _ _⟩
def sizeAt (xs:List Int)(i:Int):Int:=if 0≤i then xs.getD i.toNat 0 else 0
theorem size_any (A:Option Addr)(n cap:Nat)(xs:List Int)(i:Int)(w:World)(_hn:n≤9223372036854775807)(hr:Reads w w.heap.size 1 A n (nums xs)) :
 Calls Tryz.prog 148 #[.agg #[.slice A n cap],.int .i64 i] w fun e w'=>e = .returned (.int .i64 (sizeAt xs i))∧Below w.heap.size w w':=by
 have hlen:=nums_len hr;by_cases h0:0≤i
 ·by_cases h1:i<n
  ·obtain⟨k,rfl⟩:∃k:Nat,i=k:=⟨i.toNat,by omega⟩
   have hk:k<n:=by omega
   obtain⟨ad,x,rfl,_,hx,hc⟩:=(hr.alloc (Nat.le_refl _) (.cells #[.slice A n cap] 115)).num hk;have e:sizeAt xs k=x:=by unfold sizeAt;rw[if_pos (by omega)];simp[hx]
   rw[e];clear e
   go_enter Tryz.func148,Tryz.ntmps148
   go_wp2
   go_ret;exact⟨rfl,bone _ _⟩
  ·have e:sizeAt xs i=0:=by unfold sizeAt;rw[if_pos h0];simp[List.getD,List.getElem?_eq_none (show xs.length≤i.toNat by omega)]
   rw[e];clear e
   go_enter Tryz.func148,Tryz.ntmps148
   go_wp2
   go_ret;exact⟨rfl,bone _ _⟩
 ·have e:sizeAt xs i=0:=by unfold sizeAt;rw[if_neg h0]
  rw[e];clear e
  go_enter Tryz.func148,Tryz.ntmps148
  go_wp2
  go_ret;exact⟨rfl,bone _ _⟩
def stepAt (xs:List Int)(i:Int):Int:=if 0≤i∧i<xs.length then prodI (xs.drop (i.toNat+1)) else 0
theorem step_any (A:Option Addr)(n cap:Nat)(xs:List Int)(i:Int)(w:World)(hn:n≤9223372036854775807)(hnc:n≤cap)(hr:Reads w w.heap.size 1 A n (nums xs))(hz:Szs xs) :
 Calls Tryz.prog 177 #[.agg #[.slice A n cap],.int .i64 i] w fun e w'=>e = .returned (.int .i64 (stepAt xs i))∧Below w.heap.size w w':=by
 have hlen:=nums_len hr;by_cases h:0≤i∧i<n
 ·obtain⟨h0,h1⟩:=h
  obtain⟨k,rfl⟩:∃k:Nat,i=k:=⟨i.toNat,by omega⟩;have hk:k<n:=by omega
  have e:stepAt xs k=prodI (xs.drop (k+1)):=by unfold stepAt;rw[if_pos (by omega)];rfl
  rw[e];clear e;have hx:=reads_cut ((hr.alloc (Nat.le_refl _) (.cells #[.slice A n cap] 115)).more (B':=(w.alloc (.cells #[.slice A n cap] 115)).heap.size) (by simp)) (k:=k+1) (by omega) hnc (by omega);have hz':=szs_drop hz (k+1);clear hr;by_cases hck:cap=k+1
  ·have hnk:n=k+1:=by omega
   have hd:xs.drop (k+1) = []:=List.drop_of_length_le (by omega);have hx':=hx.1 hck;rw[hd]at hx' hz' ⊢;subst hck hnk;rw[Nat.sub_self]at hx';clear hx hd
   go_enter Tryz.func177,Tryz.ntmps177
   go_wp2_with (first
    |(go_at_call 121;(with_reducible refine (count_any _ _ _ [] _ hx' hz').mono ?_);rintro e w1 ⟨rfl,hb1⟩))
   go_ret;exact⟨rfl,bto (bone _ _) hb1⟩
  ·have hx':=hx.2 hck
   clear hx
   go_enter Tryz.func177,Tryz.ntmps177
   go_wp2_with (first
    |(go_at_call 121;(with_reducible refine (count_any _ _ _ (xs.drop (k+1)) _ hx' hz').mono ?_);rintro e w1 ⟨rfl,hb1⟩))
   go_ret;exact⟨rfl,bto (bone _ _) hb1⟩
 ·have e:stepAt xs i=0:=by unfold stepAt;rw[hlen,if_neg h]
  rw[e];clear e;by_cases h0:0≤i
  ·have h1:¬ i<n:=fun h1=>h ⟨h0,h1⟩
   clear h
   go_enter Tryz.func177,Tryz.ntmps177
   go_wp2
   go_ret;exact⟨rfl,bone _ _⟩
  ·clear h
   go_enter Tryz.func177,Tryz.ntmps177
   go_wp2
   go_ret;exact⟨rfl,bone _ _⟩
def idxI (xs ts:List Int):Int:=(List.zip ts xs).foldl (fun n p=>n*p.2+p.1) 0
def InT (xs ts:List Int):Prop:=ts.length=xs.length∧∀p∈List.zip ts xs,0≤p.1∧p.1<p.2
instance (xs ts:List Int):Decidable (InT xs ts):=by unfold InT;infer_instance
def idxV (xs ts:List Int):Int:=if InT xs ts then idxI xs ts else 0
def idxE (xs ts:List Int):Int:=if InT xs ts then 0 else 3
theorem zip_get {ts xs:List Int}{j:Nat}{t x:Int}(h1:ts[j]?=some t)(h2:xs[j]?=some x):(List.zip ts xs)[j]?=some (t,x):=by
 rw[List.getElem?_zip_eq_some];exact⟨h1,h2⟩
theorem idx_snoc {xs ts:List Int}{j:Nat}{t x:Int}(h1:ts[j]?=some t)(h2:xs[j]?=some x):idxI (xs.take (j+1)) (ts.take (j+1))=idxI (xs.take j) (ts.take j)*x+t:=by
 unfold idxI;rw[← take_zip,← take_zip,List.take_add_one,zip_get h1 h2,List.foldl_append];rfl
theorem idx_bd {xs ts:List Int}(hz:Szs xs)(h:∀p∈List.zip ts xs,0≤p.1∧p.1<p.2)(hl:ts.length=xs.length):0≤idxI xs ts∧idxI xs ts<prodI xs:=by
 suffices H:∀j,j≤xs.length→0≤idxI (xs.take j) (ts.take j)∧idxI (xs.take j) (ts.take j)<prodI (xs.take j) by
  have:=H xs.length (Nat.le_refl _);rw[List.take_of_length_le (Nat.le_refl _),List.take_of_length_le (by omega)]at this;exact this
 intro j
 induction j with
 |zero=>intro _;simp[idxI,prodI]
 | succ j ih =>
   intro hj;obtain⟨i1,i2⟩:=ih (by omega);have e1:ts[j]?=some (ts[j]'(by omega)):=List.getElem?_eq_getElem (by omega);have e2:xs[j]?=some (xs[j]'(by omega)):=List.getElem?_eq_getElem (by omega);obtain⟨b1,b2⟩:=h _ (List.mem_of_getElem? (zip_get e1 e2));rw[idx_snoc e1 e2,prod_snoc _ _ _ e2];dsimp only at b1 b2;generalize xs[j]'(by omega)=x at *;generalize ts[j]'(by omega)=t at *;generalize idxI (xs.take j) (ts.take j)=a at *;generalize prodI (xs.take j)=p at *;have m1:0≤a*x:=Int.mul_nonneg i1 (by omega);have m2:(a+1)*x≤p*x:=Int.mul_le_mul_of_nonneg_right (by omega) (by omega);rw[Int.add_mul,Int.one_mul]at m2;omega
theorem index_any (A C:Option Addr)(n cap c:Nat)(xs ts:List Int)(w:World)(hn:n≤9223372036854775807)(hr:Reads w w.heap.size 1 A n (nums xs))(ht:Reads w w.heap.size 1 C n (nums ts))(hz:Szs xs) :
 Calls Tryz.prog 169 #[.agg #[.slice A n cap],.slice C n c] w fun e w' =>
  e = .returned (.tuple #[.int .i64 (idxV xs ts),.int .i64 (idxE xs ts)])∧Below w.heap.size w w':=by
 have hlen:=nums_len hr;have hlt:=nums_len ht;have hr1:=hr.alloc (Nat.le_refl _) (.cells #[.slice A n cap] 115);have ht1:=ht.alloc (Nat.le_refl _) (.cells #[.slice A n cap] 115)
 go_enter Tryz.func169,Tryz.ntmps169
 go_wp2
 go_loop [6,17] (fun s i => ∃j:Nat,j≤n∧i = .int .i64 j∧s = .int .i64 (idxI (xs.take j) (ts.take j))∧∀p∈(List.zip ts xs).take j,0≤p.1∧p.1<p.2) (fun _ i=>n-(intOf i).toNat)
 case atStart=>exact⟨0,by omega,rfl,rfl,by simp⟩
 case round =>
  obtain⟨j,hj,rfl,rfl,hall⟩:=hrel;by_cases hlt2:j<n
  ·obtain⟨ad,x,rfl,_,hx,hc⟩:=hr1.num hlt2
   obtain⟨ad2,t,rfl,_,htt,hc2⟩:=ht1.num hlt2;have hb:=idx_bd (szs_take hz j) (ts:=ts.take j) (by rw[← take_zip];exact hall) (by simp;omega);have hp:=szs_prod (szs_take hz j);obtain⟨x1,x2⟩:=hz.2 x (List.mem_of_getElem? hx);by_cases hin:0≤t∧t<x
   ·obtain⟨t1,t2⟩:=hin
    have HS:=Hd (idx_snoc htt hx);have hb2:0≤idxI (xs.take j) (ts.take j)*x∧idxI (xs.take j) (ts.take j)*x≤1073741824*32:=⟨Int.mul_nonneg hb.1 (by omega),Int.mul_le_mul (by omega) (by omega) (by omega) (by omega)⟩
    have HA:Hid (∀p∈(List.zip ts xs).take (j+1),0≤p.1∧p.1<p.2):=by
     rw[List.take_add_one,zip_get htt hx];intro p hp;simp only[List.mem_append,Option.toList_some,List.mem_singleton]at hp;rcases hp with hp | rfl
     ·exact hall p hp
     ·exact⟨t1,t2⟩
    clear hall hx htt
    go_wp2
    go_round
    case rel=>exact⟨j+1,by omega,by go_num,by rw[HS.out],HA.out⟩
    case measure=>simp[intOf];omega
   ·have hnot:¬ InT xs ts:=fun h=>hin (h.2 _ (List.mem_of_getElem? (zip_get htt hx)))
    have HN:=Hd hnot;clear hall hx htt hnot;by_cases t1:0≤t
    ·have t2:¬ t<x:=fun h=>hin ⟨t1,h⟩
     clear hin
     go_wp2
     go_ret2;exact⟨ret_two (by rw[idxV,if_neg HN.out]) (by rw[idxE,if_neg HN.out]),bone _ _⟩
    ·clear hin
     go_wp2
     go_ret2;exact⟨ret_two (by rw[idxV,if_neg HN.out]) (by rw[idxE,if_neg HN.out]),bone _ _⟩
  ·have hyes:InT xs ts:=⟨by omega,by rw[List.take_of_length_le (by simp;omega)]at hall;exact hall⟩
   have HY:=Hd hyes;clear hall hyes
   go_wp2
   go_ret2;exact⟨ret_two (by rw[idxV,if_pos HY.out,List.take_of_length_le (by omega),List.take_of_length_le (by omega)]) (by rw[idxE,if_pos HY.out]),bone _ _⟩
set_option maxRecDepth 100000
theorem sizes_any (A:Option Addr)(n cap:Nat)(xs:List Int)(w:World)(hn:n≤17592186044415)(hr:Reads w w.heap.size 1 A n (nums xs)) :
 Calls Tryz.prog 114 #[.agg #[.slice A n cap]] w fun e w'=>Copied w xs e w':=by
 have hr1:=(hr.alloc (Nat.le_refl _) (.cells #[.slice A n cap] 115)).more (B':=(w.alloc (.cells #[.slice A n cap] 115)).heap.size) (by simp)
 go_enter Tryz.func114,Tryz.ntmps114
 go_wp2_with (first
  |(go_at_call 13;(with_reducible refine (clone_any _ _ _ xs _ hn hr1).mono ?_);rintro e w1 ⟨A1,c1,rfl,hown,hb1⟩))
 go_ret;exact⟨A1,c1,rfl,own_base hown (by simp),bto (bone _ _) hb1⟩
def tupI (xs:List Int)(i:Int):List Int:=(List.range xs.length).map fun k=>i / prodI (xs.drop (k+1)) % xs.getD k 1
theorem tup_len (xs:List Int)(i:Int):(tupI xs i).length=xs.length:=by unfold tupI;simp
theorem tup_get {xs:List Int}{k:Nat}{x:Int}(i:Int)(h:xs[k]?=some x):(tupI xs i)[k]?=some (i / prodI (xs.drop (k+1)) % x):=by
 have hl:=(List.getElem?_eq_some_iff.1 h).1;unfold tupI;rw[List.getElem?_map,List.getElem?_range hl];simp[h]
def part (l:List Int)(j:Nat):List Int:=l.take j++List.replicate (l.length-j) 0
theorem part_zero (l:List Int):part l 0=List.replicate l.length 0:=by unfold part;simp
theorem part_all (l:List Int):part l l.length=l:=by unfold part;simp
theorem part_len (l:List Int)(j:Nat)(h:j≤l.length):(part l j).length=l.length:=by unfold part;simp;omega
theorem part_set (l:List Int)(j:Nat)(x:Int)(h:l[j]?=some x):(nums (part l j)).set j (.int .i64 x)=nums (part l (j+1)):=by
 have hl:=(List.getElem?_eq_some_iff.1 h).1;unfold nums;rw[← List.map_set]
 congr 1
 unfold part;rw[List.set_append_right _ _ (by simp;omega),List.take_add_one,h,List.append_assoc]
 congr 1
 rw[show l.length-j=(l.length-(j+1))+1 by omega,List.replicate_succ,List.length_take,Nat.min_eq_left (by omega),Nat.sub_self];rfl
theorem nums_rep (n:Nat):(madeCells #[.int .i64 0] n).toList=nums (List.replicate n 0):=by
 rw[toList_madeCells_one];unfold nums;rw[List.map_replicate]
theorem tdm (i P x:Int)(h0:0≤i)(h1:i≤1073741824)(hP:1≤P)(hx:1≤x):(wrap64 (i.tdiv P)).tmod x=i / P % x:=by
 have e1:i.tdiv P=i / P:=Int.tdiv_eq_ediv_of_nonneg h0;have b1:0≤i / P:=Int.ediv_nonneg h0 (by omega);have b2:i / P≤i:=Int.ediv_le_self P h0;have e2:wrap64 (i / P)=i / P:=by unfold wrap64;omega
 rw[e1,e2,Int.tmod_eq_emod_of_nonneg b1]
def Tupled (w:World)(xs:List Int)(i:Int)(e:Ending)(w':World):Prop :=
 Below w.heap.size w w' ∧
 ((¬ (0≤i∧i<prodI xs)∧e = .returned (.tuple #[.slice none 0 0,.int .i64 3])) ∨
  ((0≤i∧i<prodI xs)∧∃g,e = .returned (.tuple #[.slice (some ⟨g,0,none⟩) xs.length xs.length,.int .i64 0])∧w'.ownsRow w.heap.size 3 1 (.slice (some ⟨g,0,none⟩) xs.length xs.length) xs.length (nums (tupI xs i))))
theorem tuple_any (A:Option Addr)(n cap:Nat)(xs:List Int)(i:Int)(w:World)(hnc:n≤cap)(hr:Reads w w.heap.size 1 A n (nums xs))(hz:Szs xs) :
 Calls Tryz.prog 151 #[.agg #[.slice A n cap],.int .i64 i] w fun e w'=>Tupled w xs i e w':=by
 obtain⟨i0,hi0,hz0,hz1,hz2⟩:=info_parts infoI;have hlen:=nums_len hr;have hn:n≤6:=by have:=hz.1;omega
 have hr1:=(hr.alloc (Nat.le_refl _) (.cells #[.slice A n cap] 115)).more (B':=(w.alloc (.cells #[.slice A n cap] 115)).heap.size) (by simp);by_cases h0:0≤i
 ·by_cases h1:i<prodI xs
  ·have hmk:=fun W=>run_make_rowN (P:=Tryz.prog) 31 3 i0 _ Tryz.underlying31 hi0 hz0 .i64 .i64 n n (Nat.le_refl _) (by rw[hz2];omega) (by omega) W
   go_enter Tryz.func151,Tryz.ntmps151
   go_wp2_with (first
    |(go_at_call 121;(with_reducible refine (count_any _ _ _ xs _ hr1 hz).mono ?_);rintro e w1 ⟨rfl,hb1⟩;obtain⟨hc1,hf1⟩:=((Blk.new w 115 #[.slice A n cap]).under hb1).one))
   have hb1':=hb1;obtain⟨B0,hB0⟩:∃B0,B0=(w.alloc (.cells #[.slice A n cap] 115)).heap.size:=⟨_,rfl⟩;have hBw:B0=w.heap.size+1:=by rw[hB0];simp
   rw[← hB0]at hb1' hr1;have HB0:=Hd hB0;have HBw:=Hd hBw;have hbx:Blk (w.alloc (.cells #[.slice A n cap] 115)) w.heap.size 115 #[.slice A n cap]:=Blk.new _ _ _;have hB1:B0≤w1.heap.size:=by rw[hB0];exact hb1.size
   have hown:(w1.alloc (.cells (madeCells #[.int .i64 0] n) 3)).ownsRow B0 3 1 (.slice (some ⟨w1.heap.size,0,none⟩) n n) n (nums (part (tupI xs i) 0)):=by
    rw[part_zero,tup_len,hlen,← nums_rep];exact World.ownsRow_lit w1 _ n hB1 (by unfold maxLen;omega) (by simp[madeCells])
   have hb2:Below B0 (w.alloc (.cells #[.slice A n cap] 115)) (w1.alloc (.cells (madeCells #[.int .i64 0] n) 3)):=hb1'.alloc hB1 _;clear hmk hb1 hb1' hc1 hf1 hB0 hBw
   go_loopw [23] (fun iv wr => ∃j:Nat,j≤n∧iv = .int .i64 j∧wr.ownsRow B0 3 1 (.slice (some ⟨w1.heap.size,0,none⟩) n n) n (nums (part (tupI xs i) j))∧Below B0 (w.alloc (.cells #[.slice A n cap] 115)) wr) (fun iv _=>n-(intOf iv).toNat)
   case atStart=>exact⟨0,by omega,rfl,hown,hb2⟩
   case round =>
    obtain⟨j,hj,rfl,hor,hbr⟩:=hrel;have hrr:Reads wr wr.heap.size 1 A n (nums xs):=(hr1.below hbr).more (by rw[HB0.out];exact hbr.size);have hbxr:=hbx.below hbr (by rw[HBw.out];omega);by_cases hlt:j<n
    ·obtain⟨ad,x,rfl,_,hx,hc⟩:=hrr.num hlt
     obtain⟨x1,x2⟩:=hz.2 x (List.mem_of_getElem? hx);have hP:=szs_prod (szs_drop hz (j+1));have hst:=fun wx hrx=>step_any (some ad) n cap xs j wx (by omega) hnc hrx hz
     have hse:stepAt xs j=prodI (xs.drop (j+1)):=by unfold stepAt;rw[if_pos (by omega)];rfl
     rw[hse]at hst;have HT:=Hd (part_set _ j _ (tup_get i hx));clear hown hb2 hr hr1 hse;obtain⟨hcb,hfb⟩:=hbxr.one;obtain⟨q,hq⟩:∃q,(part (tupI xs i) j)[j]?=some q:=⟨_,List.getElem?_eq_getElem (by rw[part_len _ _ (by rw[tup_len];omega),tup_len];omega)⟩;have hnq:(nums (part (tupI xs i) j))[j]?=some (.int .i64 q):=by unfold nums;rw[List.getElem?_map,hq];rfl
     obtain⟨P,hPe⟩:∃P,prodI (xs.drop (j+1))=P:=⟨_,rfl⟩;rw[hPe]at hst hP HT;clear hPe
     go_wp2_with (first
      |(go_at_call 177;(with_reducible refine (hst _ hrr).mono ?_);rintro e w2 ⟨rfl,hb3⟩;obtain⟨hc2,hf2⟩:=(hbxr.under hb3).one;have hor2:=own_under hor hb3;obtain⟨ad',x',hA',_,hx',hc3⟩:=(hrr.lift hb3).num hlt;obtain rfl:ad=ad':=Option.some.inj hA';obtain rfl:x=x':=Option.some.inj (hx.symm.trans hx');have hc4:=(hor2.cellAt j (by omega)).trans hnq;have hf4:=hor2.frozenAt j;clear hc hcb hfb)
      |fail)
     go_region
     go_wp2
     go_roundw
     case rel =>
      have hdm:=tdm i P x h0 (by have:=(szs_prod hz).2;omega) hP.1 x1;rw[← hdm]at HT;refine⟨j+1,by omega,by go_num,?_,?_⟩
      ·rw[← HT.out];exact (hor2.stored j _).1.drew
      ·exact ((hbr.trans (hb3.mono (by rw[HB0.out];exact hbr.size))).setCell (p:=⟨w1.heap.size,j,none⟩) hB1 _).drew
     case measure=>simp[intOf];omega
    ·obtain rfl:n=j:=by omega
     have hpa:part (tupI xs i) n=tupI xs i:=by have:=part_all (tupI xs i);rw[tup_len,hlen]at this;exact this
     rw[hpa]at hor;clear hpa
     go_wp2
     go_ret2;have hb:Below w.heap.size w wr:=((bone w _).trans (hbr.mono (by rw[HBw.out];omega)));refine⟨hb,.inr ⟨⟨h0,h1⟩,w1.heap.size,by rw[hlen];rfl,?_⟩⟩;rw[hlen];exact own_base hor (by rw[HBw.out];omega)
  ·have hbad:¬ (0≤i∧i<prodI xs):=fun h=>h1 h.2
   have HB:=Hd hbad;clear hbad
   go_enter Tryz.func151,Tryz.ntmps151
   go_wp2_with (first
    |(go_at_call 121;(with_reducible refine (count_any _ _ _ xs _ hr1 hz).mono ?_);rintro e w1 ⟨rfl,hb1⟩))
   go_ret2;exact⟨bto (bone _ _) hb1,.inl ⟨HB.out,rfl⟩⟩
 ·have hbad:¬ (0≤i∧i<prodI xs):=fun h=>h0 h.1
  have HB:=Hd hbad;clear hbad
  go_enter Tryz.func151,Tryz.ntmps151
  go_wp2
  go_ret2;exact⟨bone _ _,.inl ⟨HB.out,rfl⟩⟩
theorem new_yes (A:Option Addr)(n cap:Nat)(xs:List Int)(w:World)(hn:n≤17592186044415)(hr:Reads w w.heap.size 1 A n (nums xs))(hsz:Szs xs)(hp:prodI xs≤4096) :
 Calls Tryz.prog 118 #[.slice A n cap] w fun e w' => ∃A1 c1,e = .returned (.tuple #[.agg #[.slice A1 n c1],.int .i64 0])∧w'.ownsRow w.heap.size 3 1 (.slice A1 n c1) n (nums xs)∧n≤c1∧Below w.heap.size w w':=by
 have hlen:=nums_len hr;refine (new_any A n cap xs w hn hr).mono ?_;rintro e w' ⟨hb,h⟩;rcases h with⟨h,_⟩ | ⟨_,h,_⟩ | ⟨_,_,A1,c1,rfl,hown⟩
 ·exact absurd hsz h
 ·omega
 ·rw[hlen]at hown
  exact⟨A1,c1,by rw[hlen],hown,own_cap hown,hb⟩
end Go.Proofs.YtjpkkkphhaajgaaGreatDoor.shp
namespace Go.Proofs.YtjpkkkphhaajgaaGreatDoor.shp
open Go words
def suf (xs:List Int)(q:Nat):Int:=prodI (xs.drop q)
theorem suf_all (xs:List Int):suf xs xs.length=1:=by unfold suf;simp[prodI]
theorem suf_step {xs:List Int}{q:Nat}{x:Int}(h:xs[q]?=some x):suf xs q=x*suf xs (q+1):=by
 have hl:=(List.getElem?_eq_some_iff.1 h).1;unfold suf;rw[List.drop_eq_getElem_cons hl,prodI_cons]
 congr 1
 rw[List.getElem?_eq_getElem hl]at h;exact Option.some.inj h
theorem suf_pos {xs:List Int}(hz:Szs xs)(q:Nat):1≤suf xs q∧suf xs q≤1073741824:=szs_prod (szs_drop hz q)
theorem suf_dvd (xs:List Int){q k:Nat}(h:q≤k):∃c,suf xs q=c*suf xs k:=by
 refine⟨prodI ((xs.drop q).take (k-q)),?_⟩;unfold suf;rw[← prodI_append]
 congr 1
 have:xs.drop k=(xs.drop q).drop (k-q):=by rw[List.drop_drop];congr 1;omega
 rw[this,List.take_append_drop]
theorem tup_at {xs:List Int}{k:Nat}{x:Int}(i:Int)(h:xs[k]?=some x):(tupI xs i)[k]?=some (i / suf xs (k+1) % x):=tup_get i h
end Go.Proofs.YtjpkkkphhaajgaaGreatDoor.shp
namespace Go.Proofs.YtjpkkkphhaajgaaGreatDoor.shp
open Go RowKit ChangeShapes WideShapes ChangeAt words
theorem infoR:(Tryz.prog.info? 31).map (fun i=>(i.zero,i.size,i.bytes))=some (some (.slice none 0 0),1,24):=by kernel_rfl
theorem own_keep {w w':World}{base base':Nat}{e e':TypeId}{s s' n n':Nat}{v v':Value}{xs ys:List Value}(ho:w.ownsRow base e s v n xs)(ho':w.ownsRow base' e' s' v' n' ys)(he:e≠e')(hg:w.grownBy w' v'.ownBlock):w'.ownsRow base e s v n xs:=by
 refine ho.kept hg ?_;rcases ho.2 with⟨rfl,_⟩ | ⟨g,cap,cur,rfl,_,hh,_⟩
 ·exact .inl rfl
 ·rcases ho'.2 with⟨rfl,_⟩ | ⟨g',cap',cur',rfl,_,hh',_⟩
  ·exact .inr (by simp[Value.ownBlock])
  ·refine .inr fun hc=>?_
   simp only[Value.ownBlock,Option.some.injEq]at hc;subst hc;rw[hh]at hh'
   cases hh'
   exact he rfl
def Inn (w:World)(base:Nat)(vs:List Value)(L:List (List Int)):Prop :=
 vs.length=L.length∧∀ (i:Nat) (t:List Int),L[i]?=some t→∃A c,vs[i]?=some (.slice A t.length c)∧w.ownsRow base 3 1 (.slice A t.length c) t.length (nums t)
theorem Inn.nil (w:World)(base:Nat):Inn w base [] []:=⟨rfl,fun i t h=>by simp at h⟩
theorem Inn.under {w w':World}{base:Nat}{vs:List Value}{L:List (List Int)}(h:Inn w base vs L)(hb:Below w.heap.size w w'):Inn w' base vs L :=
 ⟨h.1,fun i t ht=>by obtain⟨A,c,h1,h2⟩:=h.2 i t ht;exact⟨A,c,h1,own_under h2 hb⟩⟩
theorem Inn.keep {w w':World}{base base':Nat}{vs:List Value}{L:List (List Int)}{v:Value}{n:Nat}{ys:List Value}(h:Inn w base vs L)(ho:w.ownsRow base' 31 1 v n ys)(hg:w.grownBy w' v.ownBlock):Inn w' base vs L :=
 ⟨h.1,fun i t ht=>by obtain⟨A,c,h1,h2⟩:=h.2 i t ht;exact⟨A,c,h1,own_keep h2 ho (by decide) hg⟩⟩
theorem Inn.snoc {w:World}{base:Nat}{vs:List Value}{L:List (List Int)}{A:Option Addr}{c:Nat}{t:List Int}(h:Inn w base vs L)(ho:w.ownsRow base 3 1 (.slice A t.length c) t.length (nums t)):Inn w base (vs ++ [.slice A t.length c]) (L ++ [t]):=by
 refine⟨by simp[h.1],fun i u hu=>?_⟩;by_cases hi:i<L.length
 ·rw[List.getElem?_append_left hi]at hu
  obtain⟨A',c',h1,h2⟩:=h.2 i u hu;exact⟨A',c',by rw[List.getElem?_append_left (by rw[h.1];exact hi)];exact h1,h2⟩
 ·rw[List.getElem?_append_right (by omega)]at hu
  have:i=L.length:=by
   have:=(List.getElem?_eq_some_iff.1 hu).1;simp at this;omega
  subst this;simp at hu;subst hu;exact⟨A,c,by rw[← h.1];simp,ho⟩
theorem Inn.base {w:World}{base base':Nat}{vs:List Value}{L:List (List Int)}(h:Inn w base vs L)(hb:base'≤base):Inn w base' vs L :=
 ⟨h.1,fun i t ht=>by obtain⟨A,c,h1,h2⟩:=h.2 i t ht;exact⟨A,c,h1,own_base h2 hb⟩⟩
def RowsI (w:World)(base:Nat)(A:Option Addr)(c:Nat)(L:List (List Int)):Prop := ∃vs,w.ownsRow base 31 1 (.slice A L.length c) L.length vs∧Inn w base vs L
theorem RowsI.under {w w':World}{base:Nat}{A:Option Addr}{c:Nat}{L:List (List Int)}(h:RowsI w base A c L)(hb:Below w.heap.size w w'):RowsI w' base A c L:=by
 obtain⟨vs,h1,h2⟩:=h;exact⟨vs,own_under h1 hb,h2.under hb⟩
theorem RowsI.base {w:World}{b b':Nat}{A:Option Addr}{c:Nat}{L:List (List Int)}(h:RowsI w b A c L)(hb:b'≤b):RowsI w b' A c L:=by
 obtain⟨vs,h1,h2⟩:=h;exact⟨vs,own_base h1 hb,h2.base hb⟩
theorem RowsI.at_ {w:World}{base:Nat}{A:Option Addr}{c:Nat}{L:List (List Int)}(h:RowsI w base A c L){i:Nat}{t:List Int}(ht:L[i]?=some t) :
 ∃g A' c',A=some ⟨g,0,none⟩∧w.cell? ⟨g,i,none⟩=some (.slice A' t.length c')∧Reads w w.heap.size 1 A' t.length (nums t)∧t.length≤c'∧w.ownsRow base 3 1 (.slice A' t.length c') t.length (nums t)∧L.length≤c:=by
 obtain⟨vs,h1,h2⟩:=h;have hl:=(List.getElem?_eq_some_iff.1 ht).1;obtain⟨A',c',h3,h4⟩:=h2.2 i t ht;obtain⟨g,rfl,_,_⟩:=own_some h1 (by omega);exact⟨g,A',c',rfl,(h1.cellAt i (by omega)).trans h3,Reads.of_own h4,own_cap h4,h4,own_cap h1⟩
def allI:List Int→List (List Int)
 | [] => [[]]
 |x::xs=>(List.range x.toNat).flatMap fun (v:Nat)=>(allI xs).map fun t=>(v:Int)::t
def preI (R:List (List Int))(v:Nat):List (List Int):=(List.range v).flatMap fun (u:Nat)=>R.map fun t=>(u:Int)::t
theorem pre_succ (R:List (List Int))(v:Nat):preI R (v+1)=preI R v++R.map fun t=>(v:Int)::t:=by
 unfold preI;rw[List.range_succ,List.flatMap_append];simp
def soI (R:List (List Int))(v j:Nat):List (List Int):=preI R v++(R.take j).map fun t=>(v:Int)::t
theorem so_zero (R:List (List Int))(v:Nat):soI R v 0=preI R v:=by unfold soI;simp
theorem so_all (R:List (List Int))(v:Nat):soI R v R.length=preI R (v+1):=by unfold soI;rw[List.take_length,pre_succ]
theorem so_snoc {R:List (List Int)}{v j:Nat}{t:List Int}(h:R[j]?=some t):soI R v (j+1)=soI R v j ++ [(v:Int)::t]:=by
 unfold soI;rw[List.take_add_one,h,List.map_append];simp
theorem pre_len (R:List (List Int))(v:Nat):(preI R v).length=v*R.length:=by
 induction v with
 |zero=>simp[preI]
 |succ v ih=>rw[pre_succ,List.length_append,ih,List.length_map,Nat.succ_mul]
theorem pre_at {R:List (List Int)}{v u j:Nat}{t:List Int}(hu:u<v)(hj:R[j]?=some t):(preI R v)[u*R.length+j]?=some ((u:Int)::t):=by
 have hl:=(List.getElem?_eq_some_iff.1 hj).1
 induction v with
 |zero=>omega
 | succ v ih =>
   rw[pre_succ];by_cases hv:u<v
   ·have hlt:u*R.length+j<v*R.length:=by
     have:=Nat.mul_le_mul_right R.length hv;rw[Nat.succ_mul]at this;omega
    rw[List.getElem?_append_left (by rw[pre_len];exact hlt)];exact ih hv
   ·obtain rfl:u=v:=by omega
    rw[List.getElem?_append_right (by rw[pre_len];omega),pre_len,Nat.add_sub_cancel_left,List.getElem?_map,hj];rfl
theorem all_cons (x:Int)(xs:List Int):allI (x::xs)=preI (allI xs) x.toNat:=rfl
theorem all_len {xs:List Int}(h:∀x∈xs,1≤x):((allI xs).length:Int)=prodI xs:=by
 induction xs with
 |nil=>rfl
 | cons x xs ih =>
   have hx:=h x (by simp);rw[all_cons,pre_len,prodI_cons,Int.natCast_mul,ih fun y hy=>h y (by simp[hy])]
   congr 1;omega
theorem all_lens {xs:List Int}:∀t∈allI xs,t.length=xs.length:=by
 induction xs with
 |nil=>intro t ht;simp[allI]at ht;subst ht;rfl
 | cons x xs ih =>
   intro t ht;simp only[allI,List.mem_flatMap,List.mem_map]at ht;obtain⟨v,_,t',ht',rfl⟩:=ht;simp[ih t' ht']
theorem tup_mod {xs:List Int}(hz:Szs xs){a i:Int}:tupI xs (a*prodI xs+i)=tupI xs i:=by
 apply List.ext_getElem?
 intro k;by_cases hk:k<xs.length
 ·obtain⟨y,hy⟩:∃y,xs[k]?=some y:=⟨xs[k],List.getElem?_eq_getElem hk⟩
  have hy1:=hz.2 y (List.mem_of_getElem? hy);have hs:=suf_pos hz (k+1);rw[tup_at _ hy,tup_at _ hy]
  congr 1
  obtain⟨c,hc⟩:=suf_dvd xs (Nat.zero_le k);rw[suf_step hy]at hc;have hp:prodI xs=c*(y*suf xs (k+1)):=by rw[← hc];unfold suf;rw[List.drop_zero]
  rw[hp,show a*(c*(y*suf xs (k+1)))+i=i+suf xs (k+1)*(a*c*y) by
   rw[Int.add_comm];congr 1;simp only[Int.mul_comm,Int.mul_left_comm,Int.mul_assoc]]
  rw[Int.add_mul_ediv_left _ _ (by omega),show a*c*y=y*(a*c) from Int.mul_comm _ _,Int.add_mul_emod_self_left]
 ·rw[List.getElem?_eq_none (by rw[tup_len];omega),List.getElem?_eq_none (by rw[tup_len];omega)]
theorem tup_cons {x:Int}{xs:List Int}(i:Int):tupI (x::xs) i=(i / prodI xs % x)::tupI xs i:=by
 apply List.ext_getElem?
 intro k
 cases k with
 | zero =>
   rw[tup_at i (xs:=x::xs) (k:=0) (x:=x) rfl]
   simp[suf]
 | succ k =>
   rw[List.getElem?_cons_succ];by_cases hk:k<xs.length
   ·obtain⟨y,hy⟩:∃y,xs[k]?=some y:=⟨xs[k],List.getElem?_eq_getElem hk⟩
    rw[tup_at i (xs:=x::xs) (k:=k+1) (x:=y) (by simpa using hy),tup_at i hy];simp[suf]
   ·rw[List.getElem?_eq_none (by rw[tup_len];simp;omega),List.getElem?_eq_none (by rw[tup_len];omega)]
theorem all_at {xs:List Int}(hz:Szs xs):∀ (i:Nat),(i:Int)<prodI xs→(allI xs)[i]?=some (tupI xs i):=by
 induction xs with
 | nil =>
   intro i hi;have:i=0:=by have:prodI []=1:=rfl;omega
   subst this
   rfl
 | cons x xs ih =>
   intro i hi;have hx:=hz.2 x (by simp);have hz':Szs xs:=⟨by have:=hz.1;simp at this;omega,fun k hk=>hz.2 k (by simp[hk])⟩;have hl:=all_len (xs:=xs) fun y hy=>(hz'.2 y hy).1
   have hp:=szs_prod hz';obtain⟨P,hP⟩:∃P:Nat,prodI xs=P:=⟨(prodI xs).toNat,by omega⟩;rw[hP]at hl hp;have hl':(allI xs).length=P:=by omega
   rw[prodI_cons,hP]at hi;have hP1:1≤P:=by omega
   have e:=Nat.div_add_mod i P;have lt:=Nat.mod_lt i (show 0<P by omega)
   have hq:((i / P:Nat):Int)<x:=by
    refine Int.not_le.1 fun hle=>?_
    have:x*(P:Int)≤((i / P:Nat):Int)*P:=Int.mul_le_mul_of_nonneg_right hle (by omega)
    have h2:((i / P:Nat):Int)*P≤i:=by
     rw[← Int.natCast_mul];have:i / P*P≤i:=Nat.div_mul_le_self i P;omega
    omega
   have hr:=ih hz' (i % P) (by rw[hP];omega);rw[all_cons];have:=pre_at (v:=x.toNat) (u:=i / P) (by omega) hr;rw[hl',show i / P*P+i % P=i by rw[Nat.mul_comm];exact e]at this;rw[this,tup_cons,hP];have e1:((i:Int) / (P:Int))=((i / P:Nat):Int):=(Int.natCast_ediv i P).symm
   congr 2
   ·rw[e1,Int.emod_eq_of_lt (Int.natCast_nonneg _) hq]
   ·have:=tup_mod hz' (a:=((i / P:Nat):Int)) (i:=((i % P:Nat):Int))
    rw[← this,hP]
    congr 1
    rw[← Int.natCast_mul,← Int.natCast_add,Nat.mul_comm];rw[e]
end Go.Proofs.YtjpkkkphhaajgaaGreatDoor.shp
namespace Go.Proofs.YtjpkkkphhaajgaaGreatDoor.shp
open Go words
theorem tup_in {xs:List Int}(hz:Szs xs)(i:Int):InT xs (tupI xs i):=by
 refine⟨tup_len xs i,fun p hp=>?_⟩;obtain⟨j,hj⟩:=List.mem_iff_getElem?.1 hp;obtain⟨h1,h2⟩:=List.getElem?_zip_eq_some.1 hj;rw[tup_at i h2]at h1;have hx:=hz.2 _ (List.mem_of_getElem? h2);have h1:=Option.some.inj h1;exact⟨by rw[← h1];exact Int.emod_nonneg _ (by omega),by rw[← h1];exact Int.emod_lt_of_pos _ (by omega)⟩
theorem idx_tup {xs:List Int}(hz:Szs xs){i:Int}(h0:0≤i)(h1:i<prodI xs):∀j,j≤xs.length→idxI (xs.take j) ((tupI xs i).take j)=i / suf xs j:=by
 intro j
 induction j with
 | zero =>
   intro _;have:suf xs 0=prodI xs:=by unfold suf;rw[List.drop_zero]
   rw[this,Int.ediv_eq_zero_of_lt h0 h1]
   rfl
 | succ j ih =>
   intro hj;obtain⟨x,hx⟩:∃x,xs[j]?=some x:=⟨_,List.getElem?_eq_getElem (by omega)⟩;have hs:=suf_pos hz (j+1);rw[idx_snoc (tup_at i hx) hx,ih (by omega),suf_step hx,Int.mul_comm x,← Int.ediv_ediv_of_nonneg (by omega),Int.mul_comm];exact Int.mul_ediv_add_emod _ _
theorem idx_full {xs:List Int}(hz:Szs xs){i:Int}(h0:0≤i)(h1:i<prodI xs):idxI xs (tupI xs i)=i:=by
 have:=idx_tup hz h0 h1 xs.length (Nat.le_refl _)
 rwa [List.take_length,List.take_of_length_le (by rw[tup_len];omega),suf_all,Int.ediv_one]at this
end Go.Proofs.YtjpkkkphhaajgaaGreatDoor.shp
namespace Go.Proofs.YtjpkkkphhaajgaaGreatDoor.words
open ChangeShapes WideShapes ChangeAt RowKit
theorem infoL:(Tryz.prog.info? 2).map (fun i=>(i.zero,i.size,i.bytes))=some (some (.int .i64 0),1,8):=by kernel_rfl
def Copied64 (w:World)(xs:List Int)(e:Ending)(w':World):Prop := ∃A c,e = .returned (.slice A xs.length c)∧w'.ownsRow w.heap.size 2 1 (.slice A xs.length c) xs.length (nums xs)∧Below w.heap.size w w'
theorem clone64_any (A:Option Addr)(n cap:Nat)(xs:List Int)(w:World)(hn:n≤17592186044415)(hr:Reads w w.heap.size 1 A n (nums xs)) :
 Calls Tryz.prog 57 #[.slice A n cap] w fun e w'=>Copied64 w xs e w':=by
 obtain⟨i0,hi0,hz0,hz1,hz2⟩:=info_parts infoL;have hlen:=nums_len hr;have hnil:=fun w a n c n' c'=>Lib.run_eql_slice_nil (P:=Tryz.prog) w 46 2 a n c n' c' Tryz.underlying46
 cases A with
 | none =>
   have hn0:n=0:=by
    rcases Nat.eq_zero_or_pos n with h | h
    ·exact h
    ·obtain⟨ad,h,_⟩:=hr.2 h;cases h
   subst hn0;have hx:xs = []:=List.eq_nil_of_length_eq_zero hlen;subst hx
   go_enter Tryz.func57,Tryz.ntmps57
   go_wp2
   go_ret
   exact⟨_,_,rfl,World.ownsRow_nil _ _ _ _,Below.refl _ _⟩
 | some ad =>
   have hlit:=World.ownsRow_lit (base:=w.heap.size) (e:=2) (size:=1) w #[] 0 (Nat.le_refl _) (by unfold maxLen;omega) rfl;have hr1:=hr.alloc (Nat.le_refl _) (.cells #[] 2)
   go_enter Tryz.func57,Tryz.ntmps57
   go_wp2_with (first
    |(at_builtin;refine wpList_append_any _ rfl (.tmp 5) (.tmp 6) _ rfl w.heap.size 2 i0 _ 1 8 Tryz.underlying46 hi0 hz0 hz1 hz2 rfl (by omega) _ 0 [] rfl hlit w.heap.size (some ad) n cap (nums xs) rfl hr1 nums_one (by simp only[maxLen];omega) (by omega) (by simp) ?_;intro v1 w1 hown hg1 _))
   go_ret;have hg2:(w.alloc (.cells #[] 2)).grownBy w1 (some w.heap.size):=hg1;obtain⟨A1,c1,rfl⟩:=own_shape hown;rw[Nat.zero_add,List.nil_append]at hown;rw[Nat.zero_add];refine⟨A1,c1,by rw[hlen];rfl,by rw[hlen];exact hown,((Below.refl _ _).alloc (Nat.le_refl _) _).grown hg2 (by simp) (by simp)⟩
end Go.Proofs.YtjpkkkphhaajgaaGreatDoor.words

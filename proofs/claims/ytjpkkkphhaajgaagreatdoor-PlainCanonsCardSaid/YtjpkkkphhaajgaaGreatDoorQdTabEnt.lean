/- a part -/
import Derived.Test.YtjpkkkphhaajgaaGreatDoorQdP30
import Derived.Test.YtjpkkkphhaajgaaGreatDoorQdP16
set_option linter.all false
namespace Go.Proofs.YtjpkkkphhaajgaaGreatDoor.wcp
open Go RowKit ChangeShapes WideShapes ChangeAt Maps words scn
open shp (Szs prodI InT idxI tupI allI)
theorem entries_any {w:World}{g:Nat}{F R:Nat→Prop}{zs:List Int}{k:Int}{C:List Int}(h:TabV w g F R zs k C)(hn:C.length≤4096) :
 Calls Tryz.prog 21 #[.pointer (some ⟨g,0,none⟩)] w fun e w'=>Copied64 w C e w':=by
 obtain⟨-,SA,sc,CA,cc,hb,-,-,h3,-⟩:=h;obtain⟨q0,q1,q2⟩:=Blk.three (t:=117) hb;have hc:=clone64_any CA C.length cc C w (by omega) (Reads.of_own h3);clear hb h3
 go_enter Tryz.func21,Tryz.ntmps21
 go_wp2_with fail;refine hc.mono ?_;rintro e w1 ⟨A,c,rfl,ho,hB⟩;clear hc;go_wp2_with fail;go_ret;exact⟨A,c,rfl,ho,hB⟩
def posB (c:Int):Bool:=decide (0<c)
theorem pos_any (c:Int)(w:World):Calls Tryz.prog 42 #[.int .i64 c] w fun e w'=>e = .returned (.bool (posB c))∧w'=w:=by
 go_enter Tryz.func42,Tryz.ntmps42
 go_wp2_with fail;go_ret;exact⟨rfl,rfl⟩
def FoundP (xs:List Int)(e:Ending):Prop := ∃r:Int,e = .returned (.int .i64 r)∧(0≤r↔∃a∈xs,posB a=true)
theorem indexP_any (A:Option Addr)(n cap:Nat)(xs:List Int)(w:World)(hn:n≤4096)(hr:Reads w w.heap.size 1 A n (nums xs)) :
 Calls Tryz.prog 109 #[.slice A n cap,.func (.func 42) #[] #[]] w fun e w'=>FoundP xs e∧w'=w:=by
 have hlen:=nums_len hr
 go_enter Tryz.func109,Tryz.ntmps109
 go_wp2_with fail
 go_loop [8] (fun i => ∃j:Nat,j≤n∧i = .int .i64 j∧∀a∈xs.take j,posB a=false) (fun i=>n-(intOf i).toNat)
 case atStart=>exact⟨0,by omega,rfl,by simp⟩
 case round =>
  obtain⟨j,hj,rfl,hall⟩:=hrel;by_cases hlt:j<n
  ·obtain⟨ad,x,rfl,_,hx,hc⟩:=hr.num hlt
   have hp:=pos_any x w
   cases hb:posB x with
   | false =>
     rw[hb]at hp;have HA:=Hd hall;clear hall;go_wp2_with fail;refine hp.mono ?_;rintro e w' ⟨rfl,rfl⟩;clear hp;go_wp2_with fail
     go_round
     case rel =>
      refine⟨j+1,by omega,by go_num,?_⟩;rw[List.take_add_one,hx];intro a ha;simp only[List.mem_append,Option.toList_some,List.mem_singleton]at ha;rcases ha with ha | rfl
      ·exact HA.out a ha
      ·exact hb
     case measure=>simp[intOf];omega
   | true =>
     rw[hb]at hp;have HA:=Hd hall;clear hall;go_wp2_with fail;refine hp.mono ?_;rintro e w' ⟨rfl,rfl⟩;clear hp;go_wp2_with fail;go_ret
     exact⟨⟨(j:Int),rfl,by
      constructor
      ·intro _;exact⟨x,List.mem_of_getElem? hx,hb⟩
      ·intro _;omega⟩,rfl⟩
  ·have HA:=Hd hall
   clear hall
   go_wp2
   go_ret;refine⟨⟨-1,rfl,?_⟩,rfl⟩;constructor
   ·intro h;omega
   ·rintro ⟨a,ha,hf⟩
    have:=HA.out a (by rw[List.take_of_length_le (by omega)];exact ha);rw[this]at hf;cases hf
theorem containsP_any (A:Option Addr)(n cap:Nat)(xs:List Int)(w:World)(hn:n≤4096)(hr:Reads w w.heap.size 1 A n (nums xs)) :
 Calls Tryz.prog 41 #[.slice A n cap,.func (.func 42) #[] #[]] w fun e w'=>e = .returned (.bool (xs.any posB))∧w'=w:=by
 have hi:=indexP_any A n cap xs w hn hr
 cases hall:xs.any posB with
 | true =>
   have hA:∃a∈xs,posB a=true:=by rw[List.any_eq_true]at hall;exact hall
   have HA:=Hd hA;clear hA hall
   go_enter Tryz.func41,Tryz.ntmps41
   go_wp2_with fail;refine hi.mono ?_;rintro e w' ⟨⟨r,rfl,hf⟩,rfl⟩;have hr0:0≤r:=hf.2 HA.out;clear hf hi;go_wp2_with fail;go_ret
   exact⟨ret_bool (by simp),rfl⟩
 | false =>
   have hA:∀a∈xs,posB a=false:=by rw[List.any_eq_false]at hall;simpa using hall
   have HA:=Hd hA;clear hA hall
   go_enter Tryz.func41,Tryz.ntmps41
   go_wp2_with fail;refine hi.mono ?_;rintro e w' ⟨⟨r,rfl,hf⟩,rfl⟩;have hr0:¬ 0≤r:=fun h=>by obtain⟨a,ha,hb⟩:=hf.1 h;rw[HA.out a ha]at hb;cases hb
   clear hf hi;go_wp2_with fail;go_ret;exact⟨ret_bool (by simp[hr0]),rfl⟩
theorem nothing_any {w:World}{g:Nat}{F R:Nat→Prop}{zs:List Int}{k:Int}{C:List Int}(h:TabV w g F R zs k C)(hn:C.length≤4096)(v1:Value) :
 Calls Tryz.prog 40 #[.agg #[v1,.pointer (some ⟨g,0,none⟩)]] w fun e w'=>e = .returned (.bool (C.all fun c=>decide (¬ 0<c)))∧Below w.heap.size w w':=by
 have h1:TabV (w.alloc (.cells #[v1,.pointer (some ⟨g,0,none⟩)] 88)) g F R zs k C:=h.under (bone w _);have he:=entries_any h1 hn;have hb1:=bone w (.cells #[v1,.pointer (some ⟨g,0,none⟩)] 88);have hbl:=Blk.new w 88 #[v1,.pointer (some ⟨g,0,none⟩)];obtain⟨d0,d1⟩:=hbl.two;obtain⟨w1,hw1⟩:∃w1,w.alloc (.cells #[v1,.pointer (some ⟨g,0,none⟩)] 88)=w1:=⟨_,rfl⟩;rw[hw1]at he hb1 d0 d1;have HC:=Hd (rfl:C=C);clear h h1 hbl
 go_enter Tryz.func40,Tryz.ntmps40
 go_wp2_with fail;refine he.mono ?_;rintro e w2 ⟨A,c,rfl,ho,hB⟩;have hcp:=containsP_any A C.length c C w2 hn (Reads.of_own ho);have HB:=Hd (bto hb1 hB);clear he ho hB hb1;go_wp2_with fail;refine hcp.mono ?_;rintro e w3 ⟨rfl,rfl⟩;clear hcp;go_wp2_with fail;go_ret;refine⟨ret_bool ?_,HB.out⟩;rw[Bool.eq_iff_iff];simp[posB]
end Go.Proofs.YtjpkkkphhaajgaaGreatDoor.wcp

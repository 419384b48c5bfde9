/- a part -/
import Derived.Test.YtjpkkkphhaajgaaGreatDoorQdP21
import Derived.Shelf.SlSortCmp.WholeK
set_option linter.all false
namespace Go.Proofs.YtjpkkkphhaajgaaGreatDoor.words
open Go RowKit Go.Sort Go.Lib Shelf
section
variable {α:Type} [Inhabited α] {enc:α→List Value} {k:Nat}
theorem flat_at (hk:∀x,(enc x).length=k)(hk0:0<k):∀ (l:List α) (t:Nat),t<l.length*k→(l.flatMap enc)[t]?=some ((enc (l.getD (t / k) default)).getD (t % k) default):=by
 intro l
 induction l with
 |nil=>intro t ht;simp at ht
 | cons x l ih =>
   intro t ht;rw[List.flatMap_cons];by_cases h:t<k
   ·rw[List.getElem?_append_left (by rw[hk];exact h),Nat.div_eq_of_lt h,Nat.mod_eq_of_lt h,List.getD_cons_zero,List.getElem?_eq_getElem (by rw[hk];exact h)]
    simp[List.getD,List.getElem?_eq_getElem (show t<(enc x).length by rw[hk];exact h)]
   ·obtain⟨u,rfl⟩:∃u,t=u+k:=⟨t-k,by omega⟩
    rw[List.getElem?_append_right (by rw[hk];omega),hk,Nat.add_sub_cancel,Nat.add_div_right _ hk0,Nat.add_mod_right,List.getD_cons_succ];refine ih u ?_;rw[List.length_cons,Nat.add_mul,Nat.one_mul]at ht;omega
theorem flatk_len (hk:∀x,(enc x).length=k):∀ (l:List α),(l.flatMap enc).length=l.length*k:=by
 intro l
 induction l with
 |nil=>simp
 |cons x l ih=>rw[List.flatMap_cons,List.length_append,ih,hk,List.length_cons,Nat.add_mul,Nat.one_mul,Nat.add_comm]
theorem flatK_list (hk:∀x,(enc x).length=k)(hk0:0<k)(l:List α):(flatK enc k l.toArray).toList=l.flatMap enc:=by
 apply List.ext_getElem?
 intro t;by_cases ht:t<l.length*k
 ·rw[flat_at hk hk0 l t ht,Array.getElem?_toList]
  have h1:=get_flatK enc k l.toArray t (by simpa using ht);have h2:t<(flatK enc k l.toArray).size:=by simpa using ht
  rw[getElem!_pos _ t h2]at h1;rw[Array.getElem?_eq_getElem h2,h1]
  congr 1
  have h3:t / k<l.length:=Nat.div_lt_of_lt_mul (by rw[Nat.mul_comm];exact ht);have h4:t % k<k:=Nat.mod_lt _ hk0;rw[getElem!_pos l.toArray (t / k) (by simpa using h3)];simp only[List.getElem_toArray];rw[getElem!_pos _ (t % k) (by rw[hk];exact h4)];simp[List.getD,List.getElem?_eq_getElem h3,List.getElem?_eq_getElem (show t % k<(enc l[t / k]).length by rw[hk];exact h4)]
 ·have e1:(flatK enc k l.toArray).toList[t]?=none:=List.getElem?_eq_none (by simp;omega)
  have e2:=flatk_len hk l;rw[e1,List.getElem?_eq_none (by omega)]
theorem holdsK_own {w:World}{B:Nat}{e:TypeId}{g n c:Nat}{l:List α}(hk:∀x,(enc x).length=k)(hk0:0<k)(h:w.ownsRow B e k (.slice (some ⟨g,0,none⟩) n c) n (l.flatMap enc))(hl:l.length=n):HoldsK enc k w g 0 l.toArray:=by
 intro j hj;have hj':j<l.length*k:=by simpa using hj
 rw[Nat.zero_add];refine⟨?_,h.frozenAt j⟩;rw[h.cellAt j (by rw[← hl];exact hj'),← flatK_list hk hk0,Array.getElem?_toList,Array.getElem?_eq_getElem hj,getElem!_pos _ j hj];rfl
theorem own_sortK {w:World}{B:Nat}{e:TypeId}{g n c m:Nat}{os:Array Obj}{l l':List α}(hk:∀x,(enc x).length=k)(hk0:0<k)(h:w.ownsRow B e k (.slice (some ⟨g,0,none⟩) n c) n (l.flatMap enc))(hl:l'.length=n) :
 (sortWorldK enc k w g 0 m l'.toArray os).ownsRow B e k (.slice (some ⟨g,0,none⟩) n c) n (l'.flatMap enc)∧Tch w (sortWorldK enc k w g 0 m l'.toArray os) (fun q=>q=g):=by
 constructor
 ·unfold sortWorldK
  refine own_grow ?_ os;rcases h.2 with⟨e0,_⟩ | ⟨g',cap',cur,e0,hb,hg,hn,hm,hs,ht⟩
  ·cases e0
  ·injection e0 with e1 _ e3
   injection e1 with e1
   injection e1 with e1
   subst e1;subst e3;have hfl:(flatK enc k l'.toArray).size=n*k:=by simp[hl]
   refine⟨?_,.inr ⟨g,c,putCells id 0 (flatK enc k l'.toArray) cur,rfl,hb,?_,hn,hm,by simpa [putCells] using hs,?_⟩⟩
   ·rw[← flatK_list hk hk0];simpa using hfl
   ·simp[putRowK,putRow,mapBlock,Sort.ahead,Array.getElem?_modify,hg,onCells]
   ·rw[← flatK_list hk hk0]
    apply List.ext_getElem?
    intro j;rw[List.getElem?_take,Array.getElem?_toList,Array.getElem?_toList];by_cases hj:j<n*k
    ·have hjc:j<cur.size:=by
      have:n*k≤c*k:=Nat.mul_le_mul_right _ hn;omega
     have hjf:j<(flatK enc k l'.toArray).size:=by omega
     simp only[if_pos hj,putCells,Array.getElem?_mapIdx,Array.getElem?_eq_getElem hjc,Option.map_some];rw[if_pos (by omega),Array.getElem?_eq_getElem hjf];rw[getElem!_pos _ (j-0) (by omega)];rfl
    ·rw[if_neg hj,Array.getElem?_eq_none (by omega)]
 ·refine⟨rfl,rfl,rfl,?_,fun i hi hn=>?_⟩
  ·simp[sortWorldK,grow,putRowK,putRow,mapBlock,Sort.ahead]
  ·simp only[sortWorldK,grow,putRowK,putRow,mapBlock,Sort.ahead]
   rw[Array.getElem?_append_left (by simpa using hi),Array.getElem?_modify,if_neg (fun e=>hn e.symm)]
end
end Go.Proofs.YtjpkkkphhaajgaaGreatDoor.words

/- a part -/
import Derived.Test.YtjpkkkphhaajgaaGreatDoorQdWords
import Derived.Test.YtjpkkkphhaajgaaGreatDoorChecked
import Derived.WalkLawsBesides
import Derived.WalkSpells
import Derived.BigQuiet
set_option linter.all false
namespace Go.Proofs.YtjpkkkphhaajgaaGreatDoor.words
open Go RowKit
theorem ret_int {a b:Int}(h:a=b):Ending.returned (.int .i64 a) = .returned (.int .i64 b):=by rw[h]
theorem ret_bool {a b:Bool}(h:a=b):Ending.returned (.bool a) = .returned (.bool b):=by rw[h]
theorem ret_two {a b c d:Int}(h:a=b)(h2:c=d):Ending.returned (.tuple #[.int .i64 a,.int .i64 c]) = .returned (.tuple #[.int .i64 b,.int .i64 d]):=by rw[h,h2]
def nums (xs:List Int):List Value:=xs.map (Value.int .i64)
theorem nums_get {xs:List Int}{k:Nat}{u:Value}(h:(nums xs)[k]?=some u):∃x,xs[k]?=some x∧u = .int .i64 x:=by
 unfold nums at h;rw[List.getElem?_map]at h
 cases hx:xs[k]? with
 |none=>rw[hx]at h;simp at h
 |some x=>rw[hx]at h;simp at h;exact⟨x,rfl,h.symm⟩
theorem nums_one {xs:List Int}:∀u∈nums xs,u.oneCell'=true:=by
 intro u hu;unfold nums at hu;obtain⟨x,_,rfl⟩:=List.mem_map.1 hu;rfl
theorem nums_len {w:World}{B n:Nat}{A:Option Addr}{xs:List Int}(h:Reads w B 1 A n (nums xs)):xs.length=n:=by
 have:=h.1;simpa [nums] using this
theorem nums_own_len {w:World}{base n:Nat}{e:TypeId}{v:Value}{xs:List Int}(h:w.ownsRow base e 1 v n (nums xs)):xs.length=n:=by
 have:=h.1;simpa [nums] using this
theorem Reads.num {w:World}{B n:Nat}{A:Option Addr}{xs:List Int}(h:Reads w B 1 A n (nums xs)){k:Nat}(hk:k<n) :
 ∃ad x,A=some ad∧ad.block<B∧xs[k]?=some x∧w.cell? (ad.add k)=some (.int .i64 x):=by
 obtain⟨ad,u,rfl,hb,hx,hc⟩:=h.at_ hk;obtain⟨x,hx',rfl⟩:=nums_get hx;exact⟨ad,x,rfl,hb,hx',hc⟩
theorem reads_block {w:World}{t:TypeId}{b n:Nat}{xs:List Value}(h:w.heap[b]?=some (.cells xs.toArray t (0,0)))(hn:xs.length=n):Reads w w.heap.size 1 (some ⟨b,0,none⟩) n xs:=by
 refine⟨by omega,fun _=>⟨_,rfl,Blk.lt h,fun j u hu=>?_⟩⟩;have e:(Addr.add ⟨b,0,none⟩ j)=⟨b,j,none⟩:=by unfold Addr.add;split<;>simp_all
 rw[e,Blk.cell h j]
 simpa using hu
theorem Reads.lift {w w':World}{n:Nat}{A:Option Addr}{xs:List Value}(h:Reads w w.heap.size 1 A n xs)(hb:Below w.heap.size w w'):Reads w' w'.heap.size 1 A n xs :=
 (h.below hb).more hb.size
theorem bcell {W w1:World}(hb:Below W.heap.size W w1):(∀b o,b<W.heap.size→w1.cell? ⟨b,o,none⟩=W.cell? ⟨b,o,none⟩)∧(∀b o,b<W.heap.size→w1.frozen? ⟨b,o,none⟩=W.frozen? ⟨b,o,none⟩) :=
 ⟨fun b o h=>hb.cell (p:=⟨b,o,none⟩) h,fun b o h=>hb.frozen (p:=⟨b,o,none⟩) h⟩
theorem Blk.under {w w':World}{g:Nat}{t:TypeId}{cs:Array Value}(h:Blk w g t cs)(hb:Below w.heap.size w w'):Blk w' g t cs:=h.below hb h.lt
theorem Blk.one {w:World}{g:Nat}{t:TypeId}{u:Value}(h:Blk w g t #[u]):w.cell? ⟨g,0,none⟩=some u∧w.frozen? ⟨g,0,none⟩=false:=⟨by rw[h.cell 0];rfl,h.frozen 0⟩
theorem bto {w a b:World}(h:Below w.heap.size w a)(h2:Below a.heap.size a b):Below w.heap.size w b:=h.trans (h2.mono h.size)
theorem bnew {w a:World}(h:Below w.heap.size w a)(o:Obj):Below w.heap.size w (a.alloc o):=h.alloc h.size o
theorem bone (w:World)(o:Obj):Below w.heap.size w (w.alloc o):=bnew (Below.refl _ _) o
theorem own_under {w w':World}{base:Nat}{e:TypeId}{size:Nat}{v:Value}{n:Nat}{xs:List Value}(h:w.ownsRow base e size v n xs)(hb:Below w.heap.size w w'):w'.ownsRow base e size v n xs:=by
 refine h.kept (only_of_below hb none) ?_;by_cases h0:v.ownBlock=none
 ·exact .inl h0
 ·exact .inr h0
theorem own_base {w:World}{base base':Nat}{e:TypeId}{size:Nat}{v:Value}{n:Nat}{xs:List Value}(h:w.ownsRow base e size v n xs)(hb:base'≤base):w.ownsRow base' e size v n xs :=
 ⟨h.1,h.2.elim Or.inl (fun⟨g,cap,cur,hv,hg,r⟩=>Or.inr ⟨g,cap,cur,hv,Nat.le_trans hb hg,r⟩)⟩
theorem reads_cut {w:World}{B n cap k:Nat}{A:Option Addr}{xs:List Int}(h:Reads w B 1 A n (nums xs))(hk:k≤n)(hc:n≤cap)(h0:0<k) :
 (cap=k→Reads w B 1 A (n-k) (nums (xs.drop k)))∧(¬ cap=k→Reads w B 1 (A.map fun x => { block:=x.block,off:=x.off+k }) (n-k) (nums (xs.drop k))):=by
 have h1:=h.cut hk hc;have e:nums (xs.drop k)=(nums xs).drop (k*1):=by unfold nums;rw[List.map_drop,Nat.mul_one]
 rw[e];constructor
 ·intro hck;rw[if_pos hck]at h1;exact h1
 ·intro hck;rw[if_neg hck]at h1
  have ef:(fun x:Addr=>x.add (k*1))=fun x => { block:=x.block,off:=x.off+k }:=by
   funext x;unfold Addr.add;rw[if_neg (by omega),Nat.mul_one]
  rw[ef]at h1;exact h1
theorem take_zip {α β:Type}(a:List α)(b:List β)(j:Nat):(List.zip a b).take j=List.zip (a.take j) (b.take j):=by
 induction a generalizing b j with
 |nil=>simp
 | cons x a ih =>
   cases b with
   |nil=>simp
   | cons y b=>cases j with
     |zero=>simp
     |succ j=>simp[ih]
theorem own_cap {w:World}{base:Nat}{e:TypeId}{size:Nat}{A:Option Addr}{n c:Nat}{xs:List Value}(h:w.ownsRow base e size (.slice A n c) n xs):n≤c:=by
 rcases h.2 with⟨h1,h0⟩ | ⟨g,cap,cur,hv,hb,hg,hc,_⟩
 ·omega
 ·injection hv with _ _ h3;omega
theorem Blk.at_ {w:World}{g:Nat}{t:TypeId}{u:Value}(h:Blk w g t #[u]){w':World}(hb:Below w.heap.size w w'):w'.cell? ⟨g,0,none⟩=some u∧w'.frozen? ⟨g,0,none⟩=false:=(h.under hb).one
structure Tch (w w':World) (S:Nat→Prop):Prop where
 os:w'.os=w.os
 tape:w'.tape=w.tape
 output:w'.output=w.output
 size:w.heap.size≤w'.heap.size
 block:∀k,k<w.heap.size→¬ S k→w'.heap[k]?=w.heap[k]?
theorem Tch.refl (w:World)(S:Nat→Prop):Tch w w S:=⟨rfl,rfl,rfl,Nat.le_refl _,fun _ _ _=>rfl⟩
theorem Tch.trans {a b c:World}{S S':Nat→Prop}(h:Tch a b S)(k:Tch b c S')(hs:∀i,i<a.heap.size→S' i→S i):Tch a c S :=
 ⟨k.os.trans h.os,k.tape.trans h.tape,k.output.trans h.output,Nat.le_trans h.size k.size,fun i hi hn=>(k.block i (Nat.lt_of_lt_of_le hi h.size) (fun x=>hn (hs i hi x))).trans (h.block i hi hn)⟩
theorem Tch.mono {a b:World}{S S':Nat→Prop}(h:Tch a b S)(hs:∀i,i<a.heap.size→S i→S' i):Tch a b S':=⟨h.os,h.tape,h.output,h.size,fun i hi hn=>h.block i hi fun x=>hn (hs i hi x)⟩
theorem Tch.below {a b:World}{S:Nat→Prop}{B:Nat}(h:Tch a b S)(hB:B≤a.heap.size)(hs:∀i,i<B→¬ S i):Below B a b:=⟨h.os,h.tape,h.output,h.size,fun i hi=>h.block i (by omega) (hs i hi)⟩
theorem Tch.of_below {a b:World}(h:Below a.heap.size a b)(S:Nat→Prop):Tch a b S:=⟨h.os,h.tape,h.output,h.size,fun i hi _=>h.block i hi⟩
theorem Tch.of_grown {a b:World}{row:Option Nat}(h:a.grownBy b row){S:Nat→Prop}(hs:∀i,i<a.heap.size→some i=row→S i):Tch a b S:=⟨h.os,h.tape,h.output,h.size,fun i hi hn=>h.block i hi fun e=>hn (hs i hi e)⟩
theorem Tch.set_ (a:World){S:Nat→Prop}{p:Addr}(u:Value)(hs:S p.block):Tch a (a.setCell p u) S :=
 ⟨rfl,rfl,rfl,by simp[World.setCell],fun i _ hn=>Below.heap_setCell a p u i fun e=>hn (by rw[e];exact hs)⟩
theorem Tch.put {a b:World}{S:Nat→Prop}(h:Tch a b S){p:Addr}(u:Value)(hs:S p.block):Tch a (b.setCell p u) S:=h.trans (Tch.set_ b u hs) fun _ _ x=>x
theorem Tch.drew {a b:World}{S:Nat→Prop}(h:Tch a b S):Tch a b.drew S:=⟨h.os,h.tape,h.output,h.size,h.block⟩
theorem Tch.blk {a b:World}{S:Nat→Prop}(h:Tch a b S){g:Nat}{t:TypeId}{cs:Array Value}(hb:Blk a g t cs)(hn:¬ S g):Blk b g t cs:=(h.block g hb.lt hn).trans hb
theorem Tch.own {a b:World}{S:Nat→Prop}(h:Tch a b S){base:Nat}{e:TypeId}{size:Nat}{v:Value}{n:Nat}{xs:List Value}(ho:a.ownsRow base e size v n xs)(hn:∀g,v.ownBlock=some g→¬ S g):b.ownsRow base e size v n xs:=by
 rcases ho.2 with h0 | ⟨g,cap,cur,rfl,hb,hh,hr⟩
 ·exact⟨ho.1,.inl h0⟩
 ·exact⟨ho.1,.inr ⟨g,cap,cur,rfl,hb,(h.block g (Blk.lt hh) (hn g rfl)).trans hh,hr⟩⟩
theorem Tch.reads {a b:World}{S:Nat→Prop}(h:Tch a b S){B size n:Nat}{A:Option Addr}{xs:List Value}(hr:Reads a B size A n xs)(hB:B≤a.heap.size)(hn:∀i,i<B→¬ S i):Reads b B size A n xs :=
 hr.keep fun p hp=>World.cell?_of_block (h.block p.block (by omega) (hn _ hp))
theorem own_in {w:World}{base:Nat}{e:TypeId}{size:Nat}{v:Value}{n:Nat}{xs:List Value}(h:w.ownsRow base e size v n xs){q:Nat}(hq:v.ownBlock=some q):base≤q∧q<w.heap.size:=by
 rcases h.2 with⟨rfl,_⟩ | ⟨g,cap,cur,rfl,hb,hg,_⟩
 ·cases hq
 ·injection hq with hq;subst hq;exact⟨hb,Blk.lt hg⟩
theorem Blk.two {w:World}{g:Nat}{t:TypeId}{a b:Value}(h:Blk w g t #[a,b]):w.cell? ⟨g,0,none⟩=some a∧w.cell? ⟨g,1,none⟩=some b:=⟨h.cell 0,h.cell 1⟩
theorem wf_u8 {x:Int}(h:(Lit.int .u8 x).wf=true):∃n:Nat,x=n∧n<256:=by
 simp[Lit.wf,IntKind.min,IntKind.max,IntKind.signed,IntKind.bits]at h;exact⟨x.toNat,by omega,by omega⟩
theorem wf_i64 {x:Int}(h:(Lit.int .i64 x).wf=true) : -9223372036854775808≤x∧x≤9223372036854775807:=by
 simp[Lit.wf,IntKind.min,IntKind.max,IntKind.signed,IntKind.bits]at h;omega
end Go.Proofs.YtjpkkkphhaajgaaGreatDoor.words
namespace Go.Proofs.YtjpkkkphhaajgaaGreatDoor.scn
open Go words
def at_ (bs:List UInt8)(i:Nat):Nat:=(bs.getD i 0).toNat
def isB (b:Nat):Bool:=b==32 || b==9 || b==10 || b==13
def isIn (b:Nat):Bool:=decide (33≤b) && decide (b≤126)
theorem in_not_b {b:Nat}(h:isIn b=true):isB b=false:=by
 simp only[isIn,Bool.and_eq_true,decide_eq_true_eq]at h;simp only[isB,Bool.or_eq_false_iff,beq_eq_false_iff_ne];omega
structure Skip (bs:List UInt8) (a i:Nat):Prop where
 le:a≤i
 len:i≤bs.length
 all:∀j,a≤j→j<i→isB (at_ bs j)=true
 stop:i<bs.length→isB (at_ bs i)=false
theorem Skip.uniq {bs:List UInt8}{a i j:Nat}(h:Skip bs a i)(k:Skip bs a j):i=j:=by
 rcases Nat.lt_trichotomy i j with hl | hl | hl
 ·have:=k.all i h.le hl;rw[h.stop (Nat.lt_of_lt_of_le hl k.len)]at this;cases this
 ·exact hl
 ·have:=h.all j k.le hl;rw[k.stop (Nat.lt_of_lt_of_le hl h.len)]at this;cases this
structure Ins (bs:List UInt8) (i j:Nat):Prop where
 le:i≤j
 len:j≤bs.length
 all:∀q,i≤q→q<j→isIn (at_ bs q)=true
 stop:j<bs.length→isIn (at_ bs j)=false
theorem Ins.uniq {bs:List UInt8}{a i j:Nat}(h:Ins bs a i)(k:Ins bs a j):i=j:=by
 rcases Nat.lt_trichotomy i j with hl | hl | hl
 ·have:=k.all i h.le hl;rw[h.stop (Nat.lt_of_lt_of_le hl k.len)]at this;cases this
 ·exact hl
 ·have:=h.all j k.le hl;rw[k.stop (Nat.lt_of_lt_of_le hl h.len)]at this;cases this
def Wrong (bs:List UInt8)(j:Nat):Prop:=j<bs.length∧isB (at_ bs j)=false
inductive Nx where
 |bad (i:Nat)
 |none
 |word (i j:Nat)
def Next (bs:List UInt8)(a:Nat)(r:Nx):Prop :=
 ∃i j,Skip bs a i∧Ins bs i j∧((Wrong bs j∧r = .bad j)∨(¬ Wrong bs j∧i=j∧r = .none)∨(¬ Wrong bs j∧i<j∧r = .word i j))
theorem Next.uniq {bs:List UInt8}{a:Nat}{r s:Nx}(h:Next bs a r)(k:Next bs a s):r=s:=by
 obtain⟨i,j,h1,h2,h3⟩:=h;obtain⟨i',j',k1,k2,k3⟩:=k;obtain rfl:=h1.uniq k1;obtain rfl:=h2.uniq k2;rcases h3 with⟨a1,rfl⟩ | ⟨a1,a2,rfl⟩ | ⟨a1,a2,rfl⟩<;>rcases k3 with⟨b1,rfl⟩ | ⟨b1,b2,rfl⟩ | ⟨b1,b2,rfl⟩
 ·rfl
 ·exact absurd a1 b1
 ·exact absurd a1 b1
 ·exact absurd b1 a1
 ·rfl
 ·omega
 ·exact absurd b1 a1
 ·omega
 ·rfl
theorem next_none {bs:List UInt8}{a i:Nat}(h:Skip bs a i)(hi:i=bs.length):Next bs a .none :=
 ⟨i,i,h,⟨Nat.le_refl _,h.len,fun q h1 h2=>by omega,fun h3=>by omega⟩,.inr (.inl ⟨fun hw=>by have:=hw.1;omega,rfl,rfl⟩)⟩
theorem Next.none_at {bs:List UInt8}{a:Nat}(h:Next bs a .none):Skip bs a bs.length:=by
 obtain⟨i,j,h1,h2,h3⟩:=h;rcases h3 with⟨_,e⟩ | ⟨a1,rfl,_⟩ | ⟨_,_,e⟩
 ·cases e
 ·by_cases hl:i<bs.length
  ·exact absurd ⟨hl,h1.stop hl⟩ a1
  ·obtain rfl:i=bs.length:=by have:=h1.len;omega
   exact h1
 ·cases e
theorem Next.word_at {bs:List UInt8}{a i j:Nat}(h:Next bs a (.word i j)):Skip bs a i∧Ins bs i j∧¬ Wrong bs j∧i<j:=by
 obtain⟨i',j',h1,h2,h3⟩:=h;rcases h3 with⟨_,e⟩ | ⟨_,_,e⟩ | ⟨a1,a2,e⟩
 ·cases e
 ·cases e
 ·injection e with e1 e2
  subst e1;subst e2;exact⟨h1,h2,a1,a2⟩
theorem Next.bad_at {bs:List UInt8}{a j:Nat}(h:Next bs a (.bad j)):∃i,Skip bs a i∧Ins bs i j∧Wrong bs j:=by
 obtain⟨i',j',h1,h2,h3⟩:=h;rcases h3 with⟨a1,e⟩ | ⟨_,_,e⟩ | ⟨_,_,e⟩
 ·injection e with e;subst e;exact⟨i',h1,h2,a1⟩
 ·cases e
 ·cases e
abbrev Wd:=List UInt8 × Nat
def sub (bs:List UInt8)(i j:Nat):List UInt8:=(bs.take j).drop i
theorem sub_len {bs:List UInt8}{i j:Nat}(hj:j≤bs.length):(sub bs i j).length=j-i:=by unfold sub;simp;omega
theorem sub_nil (bs:List UInt8)(i:Nat):sub bs i i = []:=by unfold sub;exact List.drop_eq_nil_of_le (by simp;omega)
theorem sub_snoc {bs:List UInt8}{i j:Nat}(hij:i≤j)(hj:j<bs.length):sub bs i (j+1)=sub bs i j ++ [bs.getD j 0]:=by
 unfold sub;rw[List.take_add_one,List.drop_append,List.getD_eq_getElem?_getD,List.getElem?_eq_getElem hj];have:i-(bs.take j).length=0:=by rw[List.length_take];omega
 rw[this];simp
inductive Chain (bs:List UInt8):Nat→List Wd→Nat→Prop
 |nil (a:Nat):Chain bs a [] a
 |cons {a i j z:Nat} {l:List Wd} (h:Next bs a (.word i j)) (k:Chain bs j l z):Chain bs a ((sub bs i j,i)::l) z
theorem Chain.snoc {bs:List UInt8}{a z i j:Nat}{l:List Wd}(h:Chain bs a l z)(k:Next bs z (.word i j)):Chain bs a (l ++ [(sub bs i j,i)]) j:=by
 induction h with
 |nil=>exact .cons k (.nil _)
 |cons h1 _ ih=>exact .cons h1 (ih k)
def Told (bs:List UInt8)(l:List Wd)(bad:Int):Prop := ∃z,Chain bs 0 l z∧((bad = -1∧Next bs z .none)∨∃b:Nat,bad=b∧Next bs z (.bad b))
def Far (bs:List UInt8)(i:Nat)(l:List Wd)(op:Bool):Prop :=
 ∃z,(op=false∧Chain bs 0 l z∧z≤i∧∀q,z≤q→q<i→isB (at_ bs q)=true) ∨
  (op=true∧∃l0 s,l=l0 ++ [(sub bs s i,s)]∧Chain bs 0 l0 z∧Skip bs z s∧s<i∧∀q,s≤q→q<i→isIn (at_ bs q)=true)
theorem far_zero (bs:List UInt8):Far bs 0 [] false:=⟨0,.inl ⟨rfl,.nil 0,Nat.le_refl _,fun q h1 h2=>by omega⟩⟩
theorem Far.between {bs:List UInt8}{i:Nat}{l:List Wd}{op:Bool}(h:Far bs i l op)(hi:i<bs.length)(hb:isB (at_ bs i)=true):Far bs (i+1) l false:=by
 obtain⟨z,⟨rfl,h1,h2,h3⟩ | ⟨rfl,l0,s,rfl,h1,h2,h3,h4⟩⟩:=h
 ·refine⟨z,.inl ⟨rfl,h1,by omega,fun q q1 q2=>?_⟩⟩
  by_cases e:q=i
  ·rw[e];exact hb
  ·exact h3 q q1 (by omega)
 ·have hw:¬ Wrong bs i:=fun hw=>by rw[hw.2]at hb;cases hb
  have hin:Ins bs s i:=⟨by omega,by omega,h4,fun _=>by
   cases hc:isIn (at_ bs i) with
   |false=>rfl
   |true=>rw[in_not_b hc]at hb;cases hb⟩
  refine⟨i,.inl ⟨rfl,h1.snoc ⟨s,i,h2,hin,.inr (.inr ⟨hw,h3,rfl⟩)⟩,by omega,fun q q1 q2=>?_⟩⟩;obtain rfl:q=i:=by omega
  exact hb
theorem Far.begins {bs:List UInt8}{i:Nat}{l:List Wd}(h:Far bs i l false)(hi:i<bs.length)(hb:isIn (at_ bs i)=true):Far bs (i+1) (l ++ [([bs.getD i 0],i)]) true:=by
 obtain⟨z,⟨_,h1,h2,h3⟩ | ⟨e,_⟩⟩:=h
 ·refine⟨z,.inr ⟨rfl,l,i,?_,h1,⟨h2,by omega,h3,fun _=>in_not_b hb⟩,by omega,fun q q1 q2=>?_⟩⟩
  ·rw[sub_snoc (Nat.le_refl _) hi,sub_nil];rfl
  ·obtain rfl:q=i:=by omega
   exact hb
 ·cases e
theorem Far.goes {bs:List UInt8}{i:Nat}{l:List Wd}(h:Far bs i l true)(hi:i<bs.length)(hb:isIn (at_ bs i)=true):∃l0 w s,l=l0 ++ [(w,s)]∧w.length≤bs.length∧Far bs (i+1) (l0 ++ [(w ++ [bs.getD i 0],s)]) true:=by
 obtain⟨z,⟨e,_⟩ | ⟨_,l0,s,rfl,h1,h2,h3,h4⟩⟩:=h
 ·cases e
 ·refine⟨l0,_,s,rfl,by rw[sub_len (by omega)];omega,z,.inr ⟨rfl,l0,s,?_,h1,h2,by omega,fun q q1 q2=>?_⟩⟩
  ·rw[sub_snoc (by omega) hi]
  ·by_cases e:q=i
   ·rw[e];exact hb
   ·exact h4 q q1 (by omega)
theorem Far.ends {bs:List UInt8}{l:List Wd}{op:Bool}(h:Far bs bs.length l op):Told bs l (-1):=by
 obtain⟨z,⟨rfl,h1,h2,h3⟩ | ⟨rfl,l0,s,rfl,h1,h2,h3,h4⟩⟩:=h
 ·exact⟨z,h1,.inl ⟨rfl,next_none ⟨h2,Nat.le_refl _,h3,fun h=>by omega⟩ rfl⟩⟩
 ·have hin:Ins bs s bs.length:=⟨by omega,Nat.le_refl _,h4,fun h=>by omega⟩
  exact⟨bs.length,h1.snoc ⟨s,bs.length,h2,hin,.inr (.inr ⟨fun hw=>by have:=hw.1;omega,h3,rfl⟩)⟩,.inl ⟨rfl,next_none ⟨Nat.le_refl _,Nat.le_refl _,fun q q1 q2=>by omega,fun h=>by omega⟩ rfl⟩⟩
theorem Far.wrong {bs:List UInt8}{i:Nat}{l:List Wd}(hi:i<bs.length)(hb:isB (at_ bs i)=false)(hn:isIn (at_ bs i)=false) :
 (Far bs i l false→Told bs l i)∧(Far bs i l true→∃l0 x,l=l0 ++ [x]∧Told bs l0 i):=by
 constructor
 ·rintro ⟨z,⟨_,h1,h2,h3⟩ | ⟨e,_⟩⟩
  ·exact⟨z,h1,.inr ⟨i,rfl,i,i,⟨h2,by omega,h3,fun _=>hb⟩,⟨Nat.le_refl _,by omega,fun q q1 q2=>by omega,fun _=>hn⟩,.inl ⟨⟨hi,hb⟩,rfl⟩⟩⟩
  ·cases e
 ·rintro ⟨z,⟨e,_⟩ | ⟨_,l0,s,rfl,h1,h2,h3,h4⟩⟩
  ·cases e
  ·exact⟨l0,_,rfl,z,h1,.inr ⟨i,rfl,s,i,h2,⟨by omega,by omega,h4,fun _=>hn⟩,.inl ⟨⟨hi,hb⟩,rfl⟩⟩⟩
def isD (b:UInt8):Bool:=decide (48≤b.toNat) && decide (b.toNat≤57)
def dec (l:List UInt8):Nat:=l.foldl (fun n b=>10*n+(b.toNat-48)) 0
theorem dec_snoc (l:List UInt8)(b:UInt8):dec (l ++ [b])=10*dec l+(b.toNat-48):=by simp[dec]
def farN:Nat:=4611686018427387904
def readN (l:List UInt8):Option Nat:=if l ≠ []∧l.all isD=true then some (min (dec l) farN) else none
def readW (l:List UInt8):Int × Int :=
 match l with
 | []=>(0,4)
 |b::r=>if b.toNat=45 then (match readN r with | some n=>(-(n:Int),0) | none=>(0,4)) else (match readN (b::r) with | some n=>((n:Int),0) | none=>(0,4))
theorem far_step (m d:Nat)(hd:d≤9):min (10*m+d) farN=if (farN-d) / 10<min m farN then farN else 10*min m farN+d:=by
 unfold farN;split<;>omega
end Go.Proofs.YtjpkkkphhaajgaaGreatDoor.scn
namespace Go.Proofs.YtjpkkkphhaajgaaGreatDoor.wcp
open Go scn
structure Ps where
 l:List Wd
 big:Option Int
 told:Int
 sh:List (List Int × List (List Int × Int))
inductive Res (α:Type) where
 |ok (a:α) (s:Ps)
 |bad (e at_:Int)
def Res.bind {α β:Type}(r:Res α)(f:α→Ps→Res β):Res β:=match r with | .ok a s=>f a s | .bad e x => .bad e x
theorem Res.bind_ok {α β:Type}(a:α)(s:Ps)(f:α→Ps→Res β):(Res.ok a s).bind f=f a s:=rfl
theorem Res.bind_bad {α β:Type}(e x:Int)(f:α→Ps→Res β):(Res.bad e x:Res α).bind f = .bad e x:=rfl
def far:Int:=4611686018427387904
structure Raw where
 scope:List Int
 sizes:List Int
 other:Int
 lines:List (List Int × Int)
section
variable (en ee:Int)
def pword (s:Ps):Res Wd:=match s.l with | [] => .bad ee en | w::r => .ok w { s with l:=r }
def pnum (lo hi:Int)(s:Ps):Res (Int × Int) :=
 (pword en ee s).bind fun w s=>if (readW w.1).2≠0∨(readW w.1).1<lo∨(readW w.1).1>hi then .bad 4 w.2 else .ok ((readW w.1).1,(w.2:Int)) s
def plarge (is:Bool)(x:Int)(s:Ps):Ps:=if is=true∧s.big=none then { s with big:=some x } else s
def pscope (n:Int):Nat→List Int→Ps→Res (List Int)
 |0,out,s => .ok out s
 |k+1,out,s=>(pnum en ee 0 (n-1) s).bind fun v s=>if v.1∈out then .bad 4 v.2 else pscope n k (out ++ [v.1]) s
def ptup:List Int→List Int→Ps→Res (List Int)
 | [],out,s => .ok out s
 |k::ks,out,s=>(pnum en ee 0 (k-1) s).bind fun v s=>ptup ks (out ++ [v.1]) s
def plines (sizes:List Int):Nat→List (List Int × Int)→Ps→Res (List (List Int × Int))
 |0,out,s => .ok out s
 |k+1,out,s=>(ptup en ee sizes [] s).bind fun t s=>(pnum en ee 0 far s).bind fun c s=>if t∈out.map Prod.fst then .bad 4 c.2 else plines sizes k (out ++ [(t,c.1)]) s
def pall (sizes:List Int)(s:Ps):Res (List (List Int × Int)) :=
 (pnum en ee (-far) far s).bind fun n s =>
  if n.1<0 then
   (match s.sh[(-n.1-1).toNat]? with
    |none => .bad 4 n.2
    |some x=>if x.1=sizes then .ok x.2 s else .bad 4 n.2)
  else plines en ee sizes n.1.toNat [] (plarge (decide (min (s.told+n.1) far>16384)) n.2 { s with told:=min (s.told+n.1) far })
def great (l:List Int):Bool:=decide (l.foldl (fun n k=>min (n*min k 4097) 4097) 1>4096)
def pfun (all:List Int)(s:Ps):Res Raw :=
 (pnum en ee (-far) far s).bind fun a s =>
 (pscope en ee all.length a.1.natAbs [] s).bind fun sc s =>
 (pnum en ee 0 far (plarge (decide ((a.1.natAbs:Int)>6) || great (sc.map fun v=>all.getD v.toNat 0)) a.2 s)).bind fun o s =>
 (pall en ee (sc.map fun v=>all.getD v.toNat 0) s).bind fun ls s =>
 .ok ⟨sc,sc.map fun v=>all.getD v.toNat 0,o.1,ls⟩ (if a.1<0 then { s with sh:=s.sh ++ [(sc.map fun v=>all.getD v.toNat 0,ls)] } else s)
def psizes (most:Int):Nat→List Int→Ps→Res (List Int)
 |0,out,s => .ok out s
 |k+1,out,s=>(pnum en ee 1 most s).bind fun v s=>psizes most k (out ++ [v.1]) (plarge (decide (v.1>32)) v.2 s)
def pfuns (all:List Int):Nat→List Raw→Ps→Res (List Raw)
 |0,out,s => .ok out s
 |k+1,out,s=>(pfun en ee all s).bind fun f s=>pfuns all k (out ++ [f]) s
structure Fil where
 name:List UInt8
 k:Int
 sizes:List Int
 funs:List Raw
def pbody (s:Ps):Res Fil :=
 (pword en ee s).bind fun w s =>
 (pnum en ee 1 far (plarge (decide (w.1.length>64)) w.2 s)).bind fun n s =>
 (pnum en ee 1 far (plarge (decide (n.1>64)) n.2 s)).bind fun most s =>
 (pnum en ee 0 far s).bind fun count s =>
 (pnum en ee 1 far (plarge (decide (count.1>256)) count.2 s)).bind fun k s =>
 (psizes en ee most.1 n.1.toNat [] (plarge (decide (k.1>2147483648)) k.2 s)).bind fun sizes s =>
 (pfuns en ee sizes count.1.toNat [] s).bind fun fs s =>
 .ok ⟨w.1,k.1,sizes,fs⟩ s
inductive Out where
 |err (e at_:Int)
 |file (f:Fil)
def pread (l:List Wd):Out :=
 match pbody en ee ⟨l,none,0,[]⟩ with
 | .bad e x => .err e x
 | .ok f s=>match s.l with
   |w::_ => .err 4 w.2
   | []=>if ee=11 then .err 11 en else match s.big with
     |some x => .err 5 x
     |none => .file f
end
def Ps.more (s:Ps)(l2:List Wd):Ps:={ s with l:=s.l++l2 }
def Alike {α:Type}(en ee:Int)(l2:List Wd)(r r2:Res α):Prop :=
 (∃a s,r = .ok a s∧r2 = .ok a (s.more l2))∨(∃e x,r = .bad e x∧r2 = .bad e x)∨r = .bad ee en
theorem Alike.bind {α β:Type}{en ee:Int}{l2:List Wd}{r r2:Res α}{f f2:α→Ps→Res β}(h:Alike en ee l2 r r2)(hf:∀a s,Alike en ee l2 (f a s) (f2 a (s.more l2))):Alike en ee l2 (r.bind f) (r2.bind f2):=by
 rcases h with⟨a,s,rfl,rfl⟩ | ⟨e,x,rfl,rfl⟩ | rfl
 ·exact hf a s
 ·exact .inr (.inl ⟨e,x,rfl,rfl⟩)
 ·exact .inr (.inr rfl)
theorem Alike.ok {α:Type}{en ee:Int}{l2:List Wd}(a:α)(s:Ps):Alike en ee l2 (.ok a s) (.ok a (s.more l2)) := .inl ⟨a,s,rfl,rfl⟩
theorem Alike.bad {α:Type}{en ee:Int}{l2:List Wd}(e x:Int):Alike en ee l2 (.bad e x:Res α) (.bad e x) := .inr (.inl ⟨e,x,rfl,rfl⟩)
variable {en ee en2 ee2:Int} {l2:List Wd}
theorem pword_more (s:Ps):Alike en ee l2 (pword en ee s) (pword en2 ee2 (s.more l2)):=by
 obtain⟨l,b,t,sh⟩:=s
 cases l with
 |nil=>exact .inr (.inr rfl)
 |cons w r=>exact .inl ⟨w,_,rfl,rfl⟩
theorem pnum_more (lo hi:Int)(s:Ps):Alike en ee l2 (pnum en ee lo hi s) (pnum en2 ee2 lo hi (s.more l2)):=by
 unfold pnum;refine (pword_more s).bind fun w s=>?_
 by_cases h:(readW w.1).2≠0∨(readW w.1).1<lo∨(readW w.1).1>hi
 ·rw[if_pos h,if_pos h];exact .bad _ _
 ·rw[if_neg h,if_neg h];exact .ok _ _
theorem plarge_more (is:Bool)(x:Int)(s:Ps):plarge is x (s.more l2)=(plarge is x s).more l2:=by
 unfold plarge Ps.more;by_cases h:is=true∧s.big=none
 ·rw[if_pos h,if_pos h]
 ·rw[if_neg h,if_neg h]
theorem pscope_more (n:Int)(k:Nat):∀ (out:List Int) (s:Ps),Alike en ee l2 (pscope en ee n k out s) (pscope en2 ee2 n k out (s.more l2)):=by
 induction k with
 |zero=>intro out s;exact .ok _ _
 | succ k ih =>
   intro out s;unfold pscope;refine (pnum_more _ _ s).bind fun v s=>?_
   by_cases h:v.1∈out
   ·rw[if_pos h,if_pos h];exact .bad _ _
   ·rw[if_neg h,if_neg h];exact ih _ _
theorem ptup_more (ks:List Int):∀ (out:List Int) (s:Ps),Alike en ee l2 (ptup en ee ks out s) (ptup en2 ee2 ks out (s.more l2)):=by
 induction ks with
 |nil=>intro out s;exact .ok _ _
 | cons k ks ih =>
   intro out s;unfold ptup;exact (pnum_more _ _ s).bind fun v s=>ih _ _
theorem plines_more (sizes:List Int)(k:Nat):∀ (out:List (List Int × Int)) (s:Ps),Alike en ee l2 (plines en ee sizes k out s) (plines en2 ee2 sizes k out (s.more l2)):=by
 induction k with
 |zero=>intro out s;exact .ok _ _
 | succ k ih =>
   intro out s;unfold plines;refine (ptup_more sizes [] s).bind fun t s=>(pnum_more _ _ s).bind fun c s=>?_
   by_cases h:t∈out.map Prod.fst
   ·rw[if_pos h,if_pos h];exact .bad _ _
   ·rw[if_neg h,if_neg h];exact ih _ _
theorem pall_more (sizes:List Int)(s:Ps):Alike en ee l2 (pall en ee sizes s) (pall en2 ee2 sizes (s.more l2)):=by
 unfold pall;refine (pnum_more _ _ s).bind fun n s=>?_
 by_cases h:n.1<0
 ·rw[if_pos h,if_pos h]
  show Alike en ee l2 _ (match s.sh[(-n.1-1).toNat]? with | none => .bad 4 n.2 | some x=>if x.1=sizes then .ok x.2 (s.more l2) else .bad 4 n.2)
  cases hx:s.sh[(-n.1-1).toNat]? with
  |none=>exact .bad _ _
  | some x =>
    dsimp only;by_cases h2:x.1=sizes
    ·rw[if_pos h2,if_pos h2];exact .ok _ _
    ·rw[if_neg h2,if_neg h2];exact .bad _ _
 ·rw[if_neg h,if_neg h]
  have:=plines_more (en:=en) (ee:=ee) (en2:=en2) (ee2:=ee2) (l2:=l2) sizes n.1.toNat [] (plarge (decide (min (s.told+n.1) far>16384)) n.2 { s with told:=min (s.told+n.1) far });rw[← plarge_more]at this;exact this
theorem pfun_more (all:List Int)(s:Ps):Alike en ee l2 (pfun en ee all s) (pfun en2 ee2 all (s.more l2)):=by
 unfold pfun;refine (pnum_more _ _ s).bind fun a s=>(pscope_more _ _ _ s).bind fun sc s=>?_
 rw[plarge_more];refine (pnum_more _ _ _).bind fun o s=>(pall_more _ s).bind fun ls s=>?_
 by_cases h:a.1<0
 ·rw[if_pos h,if_pos h];exact .inl ⟨_,_,rfl,rfl⟩
 ·rw[if_neg h,if_neg h];exact .ok _ _
theorem psizes_more (most:Int)(k:Nat):∀ (out:List Int) (s:Ps),Alike en ee l2 (psizes en ee most k out s) (psizes en2 ee2 most k out (s.more l2)):=by
 induction k with
 |zero=>intro out s;exact .ok _ _
 | succ k ih =>
   intro out s;unfold psizes;refine (pnum_more _ _ s).bind fun v s=>?_
   rw[plarge_more];exact ih _ _
theorem pfuns_more (all:List Int)(k:Nat):∀ (out:List Raw) (s:Ps),Alike en ee l2 (pfuns en ee all k out s) (pfuns en2 ee2 all k out (s.more l2)):=by
 induction k with
 |zero=>intro out s;exact .ok _ _
 | succ k ih =>
   intro out s;unfold pfuns;exact (pfun_more _ s).bind fun f s=>ih _ _
theorem pbody_more (s:Ps):Alike en ee l2 (pbody en ee s) (pbody en2 ee2 (s.more l2)):=by
 unfold pbody;refine (pword_more s).bind fun w s=>?_
 rw[plarge_more];refine (pnum_more _ _ _).bind fun n s=>?_
 rw[plarge_more];refine (pnum_more _ _ _).bind fun most s=>(pnum_more _ _ _).bind fun count s=>?_
 rw[plarge_more];refine (pnum_more _ _ _).bind fun k s=>?_
 rw[plarge_more];exact (psizes_more _ _ _ _).bind fun sizes s=>(pfuns_more _ _ _ _).bind fun fs s => .ok _ _
theorem pread_more {l:List Wd}{e x:Int}(h:pread en ee l = .err e x)(h4:e≠5)(hx:(e,x)≠(ee,en))(h11:ee=11→(e,x)≠(11,en)):pread en2 ee2 (l++l2) = .err e x:=by
 have hm:=pbody_more (en:=en) (ee:=ee) (en2:=en2) (ee2:=ee2) (l2:=l2) ⟨l,none,0,[]⟩;unfold pread at h ⊢;have e0:(⟨l++l2,none,0,[]⟩:Ps)=Ps.more ⟨l,none,0,[]⟩ l2:=rfl;rw[e0];rcases hm with⟨f,s,h1,h2⟩ | ⟨e',x',h1,h2⟩ | h1
 ·rw[h1]at h
  rw[h2];obtain⟨sl,sb,st,ss⟩:=s
  cases sl with
  |cons w r=>exact h
  | nil =>
    exfalso;dsimp only at h;by_cases he:ee=11
    ·rw[if_pos he]at h
     injection h with h3 h4'
     exact h11 he (by rw[h3,h4'])
    ·rw[if_neg he]at h
     cases sb with
     |none=>exact Out.noConfusion h
     |some b=>injection h with h3 _;exact h4 h3.symm
 ·rw[h1]at h;rw[h2];exact h
 ·rw[h1]at h
  injection h with h3 h4'
  exact absurd (by rw[← h3,← h4']) hx
end Go.Proofs.YtjpkkkphhaajgaaGreatDoor.wcp

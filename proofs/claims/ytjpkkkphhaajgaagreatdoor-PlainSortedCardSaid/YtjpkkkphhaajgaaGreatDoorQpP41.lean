/- QF2, QLn, QFun14, QFun13. -/
import Derived.Test.YtjpkkkphhaajgaaGreatDoorQpP20
import Derived.Test.YtjpkkkphhaajgaaGreatDoorQpP03
import Derived.Test.YtjpkkkphhaajgaaGreatDoorQpP10
import Derived.Test.YtjpkkkphhaajgaaGreatDoorQpP08
import Derived.Test.YtjpkkkphhaajgaaGreatDoorQpRdRead
import Derived.Deep.RegionLaw
import Derived.Deep.RegionHeld3
import Derived.Deep.DeepCutAuto
import Derived.BigQuiet
set_option linter.all false
/- The document's function while it is read: its block, its two rows, the reader. -/
namespace Go.Proofs.YtjpkkkphhaajgaaGreatDoor.wcp
open Go Go.RowKit Go.ChangeShapes Go.WideShapes Go.ChangeAt Go.Maps Go.Proofs.YtjpkkkphhaajgaaGreatDoor.words Go.Proofs.YtjpkkkphhaajgaaGreatDoor.scn
variable {w wr : World} {gr : Nat} {en ee : Int} {sv : Value} {α : Type} {r : Res α}
structure F2 (w wr : World) (gr : Nat) (en ee : Int) (sv vs vz : Value) (o : Int) (vl : Value) (out zs : List Int) (r : Res α) : Prop where
 rb : Blk wr w.heap.size 70 #[.slice none 0 0, .slice none 0 0, .int .i64 0, .slice none 0 0]
 fb : Blk wr (w.heap.size + 1) 70 #[vs, vz, .int .i64 o, vl]
 sc : Row64 wr (w.heap.size + 2) vs out
 sz : Row64 wr (w.heap.size + 2) vz zs
 ne : ∀ q, vs.ownBlock = some q → vz.ownBlock = some q → False
 tc : Tch w wr (fun k => k = gr)
 qs : QS wr gr en ee sv r
variable {vs vz vl : Value} {o : Int} {out zs : List Int}
theorem F2.tch {w' : World} {β : Type} {r' : Res β} (h : F2 w wr gr en ee sv vs vz o vl out zs r) (hgl : gr < w.heap.size) (ht : Tch wr w' (fun k => k = gr)) (hq : QS w' gr en ee sv r') : F2 w w' gr en ee sv vs vz o vl out zs r' :=
 ⟨ht.blk h.rb (by omega), ht.blk h.fb (by omega), h.sc.tch ht (h.qs.off (by decide)), h.sz.tch ht (h.qs.off (by decide)), h.ne, h.tc.trans ht fun _ _ h => h, hq⟩
/-- blocks above the base change: the reader's state stands, where they hold no words -/
theorem F2.up {w' : World} {S : Nat → Prop} (h : F2 w wr gr en ee sv vs vz o vl out zs r) (hgl : gr < w.heap.size) (ht : Tch wr w' S) (hS : ∀ k, S k → w.heap.size ≤ k ∧ ∀ cs, ¬ Blk wr k 175 cs) :
 Tch w w' (fun k => k = gr) ∧ QS w' gr en ee sv r :=
 ⟨h.tc.trans ht fun k hk hs => by have := (hS k hs).1; omega, h.qs.tch ht (fun hs => by have := (hS _ hs).1; omega) fun k hs => (hS k hs).2⟩
theorem F2.size (h : F2 w wr gr en ee sv vs vz o vl out zs r) : w.heap.size + 2 ≤ wr.heap.size := by have := Blk.lt h.fb; omega
/-- its scope grows -/
theorem F2.mid {wb w6 : World} {row : Option Nat} (h : F2 w wr gr en ee sv vs vz o vl out zs r) (hb : Below wr.heap.size wr wb) (hg : wb.grownBy w6 row) (hr : ∀ q, row = some q → w.heap.size + 2 ≤ q) : Blk w6 (w.heap.size + 1) 70 #[vs, vz, .int .i64 o, vl] :=
 (h.fb.under hb).grown hg fun e => by have := hr _ e.symm; omega
theorem F2.left {wb w6 : World} {v6 : Value} {v : Int} (h : F2 w wr gr en ee sv vs vz o vl out zs r) (hgl : gr < w.heap.size) (hb : Below wr.heap.size wr wb) (hown : w6.ownsRow (w.heap.size + 2) 2 1 v6 (out.length + 1) (nums out ++ nums [v])) (hg : wb.grownBy w6 vs.ownBlock)
 (hat : v6.ownBlock = vs.ownBlock ∨ v6.ownBlock = some wb.heap.size) : F2 w (w6.setCell ⟨w.heap.size + 1, 0, none⟩ v6) gr en ee sv v6 vz o vl (out ++ [v]) zs r := by
 have hin : ∀ q, vs.ownBlock = some q → w.heap.size + 2 ≤ q ∧ q < wr.heap.size := fun q hq => own_in h.sc.2 hq
 have hz : ∀ q, vz.ownBlock = some q → w.heap.size + 2 ≤ q ∧ q < wr.heap.size := fun q hq => own_in h.sz.2 hq
 have hm := h.mid hb hg fun q hq => (hin q hq).1
 have T1 : Tch wr w6 (fun k => some k = vs.ownBlock) := ((Tch.of_below hb (fun k => some k = vs.ownBlock)).trans (Tch.of_grown hg (S := fun k => some k = vs.ownBlock) fun q _ hq => hq) fun _ _ h => h)
 have T2 : Tch w6 (w6.setCell ⟨w.heap.size + 1, 0, none⟩ v6) (fun k => k = w.heap.size + 1) := Tch.put (S := fun k => k = w.heap.size + 1) (Tch.refl w6 _) (p := ⟨w.heap.size + 1, 0, none⟩) _ rfl
 have T : Tch wr (w6.setCell ⟨w.heap.size + 1, 0, none⟩ v6) (fun k => some k = vs.ownBlock ∨ k = w.heap.size + 1) := (T1.mono (S' := fun k => some k = vs.ownBlock ∨ k = w.heap.size + 1) fun k _ h => Or.inl h).trans T2 fun k _ h => Or.inr h
 obtain ⟨hT, hQ⟩ := h.up hgl T fun k hk => by
  rcases hk with hk | rfl
  ·exact ⟨by have := (hin k hk.symm).1; omega, fun cs hb => own_blk_ne h.sc.2 hb (by decide) hk.symm⟩
  ·exact ⟨by omega, fun cs hb => Blk.ne_ h.fb hb (by decide) rfl⟩
 have hl : (out ++ [v]).length = out.length + 1 := by simp
 have hown' : w6.ownsRow (w.heap.size + 2) 2 1 v6 (out ++ [v]).length (nums (out ++ [v])) := by rw [hl, show nums (out ++ [v]) = nums out ++ nums [v] by simp [nums]]; exact hown
 refine ⟨T.blk h.rb ?_, hm.set_ 0 v6, ⟨?_, own_off hown' T2 (off_below fun k hk => by omega)⟩, ⟨h.sz.1, T.own h.sz.2 fun g hg hk => ?_⟩, fun q hq hq2 => ?_, hT, hQ⟩
 ·rintro (hk | hk)
  ·have := (hin _ hk.symm).1; omega
  ·omega
 ·obtain ⟨A, c, rfl⟩ := own_shape hown'; exact ⟨A, c, rfl⟩
 ·rcases hk with hk | hk
  ·exact h.ne g hk.symm hg
  ·have := (hz g hg).1; omega
 ·rcases hat with e | e
  ·rw [e] at hq; exact h.ne q hq hq2
  ·rw [e] at hq
   injection hq with hq
   have := (hz q hq2).2
   have := hb.size
   omega
/-- its sizes grow -/
theorem F2.right {wb w6 : World} {v6 : Value} {v : Int} (h : F2 w wr gr en ee sv vs vz o vl out zs r) (hgl : gr < w.heap.size) (hb : Below wr.heap.size wr wb) (hown : w6.ownsRow (w.heap.size + 2) 2 1 v6 (zs.length + 1) (nums zs ++ nums [v])) (hg : wb.grownBy w6 vz.ownBlock)
 (hat : v6.ownBlock = vz.ownBlock ∨ v6.ownBlock = some wb.heap.size) : F2 w (w6.setCell ⟨w.heap.size + 1, 1, none⟩ v6) gr en ee sv vs v6 o vl out (zs ++ [v]) r := by
 have hin : ∀ q, vz.ownBlock = some q → w.heap.size + 2 ≤ q ∧ q < wr.heap.size := fun q hq => own_in h.sz.2 hq
 have hz : ∀ q, vs.ownBlock = some q → w.heap.size + 2 ≤ q ∧ q < wr.heap.size := fun q hq => own_in h.sc.2 hq
 have hm := h.mid hb hg fun q hq => (hin q hq).1
 have T1 : Tch wr w6 (fun k => some k = vz.ownBlock) := ((Tch.of_below hb (fun k => some k = vz.ownBlock)).trans (Tch.of_grown hg (S := fun k => some k = vz.ownBlock) fun q _ hq => hq) fun _ _ h => h)
 have T2 : Tch w6 (w6.setCell ⟨w.heap.size + 1, 1, none⟩ v6) (fun k => k = w.heap.size + 1) := Tch.put (S := fun k => k = w.heap.size + 1) (Tch.refl w6 _) (p := ⟨w.heap.size + 1, 1, none⟩) _ rfl
 have T : Tch wr (w6.setCell ⟨w.heap.size + 1, 1, none⟩ v6) (fun k => some k = vz.ownBlock ∨ k = w.heap.size + 1) := (T1.mono (S' := fun k => some k = vz.ownBlock ∨ k = w.heap.size + 1) fun k _ h => Or.inl h).trans T2 fun k _ h => Or.inr h
 obtain ⟨hT, hQ⟩ := h.up hgl T fun k hk => by
  rcases hk with hk | rfl
  ·exact ⟨by have := (hin k hk.symm).1; omega, fun cs hb => own_blk_ne h.sz.2 hb (by decide) hk.symm⟩
  ·exact ⟨by omega, fun cs hb => Blk.ne_ h.fb hb (by decide) rfl⟩
 have hl : (zs ++ [v]).length = zs.length + 1 := by simp
 have hown' : w6.ownsRow (w.heap.size + 2) 2 1 v6 (zs ++ [v]).length (nums (zs ++ [v])) := by rw [hl, show nums (zs ++ [v]) = nums zs ++ nums [v] by simp [nums]]; exact hown
 refine ⟨T.blk h.rb ?_, hm.set_ 1 v6, ⟨h.sc.1, T.own h.sc.2 fun g hg hk => ?_⟩, ⟨?_, own_off hown' T2 (off_below fun k hk => by omega)⟩, fun q hq2 hq => ?_, hT, hQ⟩
 ·rintro (hk | hk)
  ·have := (hin _ hk.symm).1; omega
  ·omega
 ·rcases hk with hk | hk
  ·exact h.ne g hg hk.symm
  ·have := (hz g hg).1; omega
 ·obtain ⟨A, c, rfl⟩ := own_shape hown'; exact ⟨A, c, rfl⟩
 ·rcases hat with e | e
  ·rw [e] at hq; exact h.ne q hq2 hq
  ·rw [e] at hq
   injection hq with hq
   have := (hz q hq2).2
   have := hb.size
   omega
/-- what the next function leaves -/
def QFunR (w : World) (gr : Nat) (en ee : Int) (all : List Int) (s : Ps) (sv : Value) (e : Ending) (w' : World) : Prop :=
 ∃ v1 v2 o v4 sv', e = .returned (.agg #[v1, v2, .int .i64 o, v4]) ∧ ((∃ A n c, v1 = .slice A n c) ∧ (∃ A n c, v2 = .slice A n c) ∧ ∃ A n c, v4 = .slice A n c) ∧ (∀ k, sv'.ownBlock = some k → sv.ownBlock = some k ∨ w.heap.size ≤ k) ∧ Tch w w' (fun k => k = gr ∨ some k = sv.ownBlock) ∧ QS w' gr en ee sv' (pfun en ee all s) ∧
  (∀ f s', pfun en ee all s = .ok f s' → QFn w' v1 v2 o v4 f ∧ QSh w' sv' s'.sh)
theorem QFunR.early {all : List Int} {s : Ps} {er x : Int} {β : Type} (h : F2 w wr gr en ee sv vs vz o vl out zs (.bad er x : Res β)) (hgl : gr < w.heap.size) (hp : pfun en ee all s = .bad er x) (hl : ∃ A n c, vl = .slice A n c) {wf : World}
 (hw : (((wr.setCell ⟨w.heap.size, 0, none⟩ vs).setCell ⟨w.heap.size, 1, none⟩ vz).setCell ⟨w.heap.size, 2, none⟩ (.int .i64 o)).setCell ⟨w.heap.size, 3, none⟩ vl = wf) :
 Blk wf w.heap.size 70 #[vs, vz, .int .i64 o, vl] ∧ QFunR w gr en ee all s sv (.returned (.agg #[vs, vz, .int .i64 o, vl])) wf := by
 obtain ⟨hb, ht⟩ := raw_put h.rb hw
 obtain ⟨A1, c1, e1⟩ := h.sc.1
 obtain ⟨A2, c2, e2⟩ := h.sz.1
 obtain ⟨hT, hQ⟩ := h.up hgl ht fun k hk => ⟨by omega, fun cs hb => by subst hk; exact Blk.ne_ h.rb hb (by decide) rfl⟩
 refine ⟨hb, vs, vz, o, vl, sv, rfl, ⟨⟨A1, _, c1, e1⟩, ⟨A2, _, c2, e2⟩, hl⟩, fun k hk => .inl hk, hT.mono fun k _ h => .inl h, ?_, fun f s' he => ?_⟩
 ·rw [hp]; exact hQ
 ·rw [hp] at he; cases he
/-- between the scope's rounds -/
structure ScQ (w wr : World) (gr : Nat) (en ee : Int) (all : List Int) (k : Nat) (r1 : Res (Int × Int)) (sv vs vz : Value) (out : List Int) (i : Nat) : Prop where
 f2 : F2 w wr gr en ee sv vs vz 0 (.slice none 0 0) out (psz all out) (r1.bind fun _ s => pscope en ee all.length i [] s)
 len : out.length = i
 le : i ≤ k
 ran : ∀ v ∈ out, 0 ≤ v ∧ v < (all.length : Int)
 ok : ∀ out' s', (r1.bind fun _ s => pscope en ee all.length i [] s) = .ok out' s' → out' = out ∧ i + s'.l.length ≤ 1000000
 bad : ∀ e x, (r1.bind fun _ s => pscope en ee all.length i [] s) = .bad e x → k = 0
theorem ScQ.next {all : List Int} {k i : Nat} {r1 : Res (Int × Int)} {s2 s3 : Ps} {v x y : Int} {out : List Int} {vx : Int × Int} (h9 : F2 w wr gr en ee sv vs vz 0 (.slice none 0 0) (out ++ [v]) (psz all out ++ [y]) (.ok vx s3 : Res (Int × Int)))
 (hR : (r1.bind fun _ s => pscope en ee all.length i [] s) = .ok out s2) (hS : (r1.bind fun _ s => pscope en ee all.length (i + 1) [] s) = pscope1 en ee all.length out s2) (hp : pnum en ee 0 ((all.length : Int) - 1) s2 = .ok (v, x) s3) (hn : v ∉ out) (hy : all[v.toNat]? = some y)
 (hlen : out.length = i) (hlt : i < k) (hll : i + s2.l.length ≤ 1000000) (ran : ∀ v ∈ out, 0 ≤ v ∧ v < (all.length : Int)) (hv : 0 ≤ v ∧ v < (all.length : Int)) : ScQ w wr gr en ee all k r1 sv vs vz (out ++ [v]) (i + 1) := by
 have e : (r1.bind fun _ s => pscope en ee all.length (i + 1) [] s) = .ok (out ++ [v]) s3 := by
  rw [hS]; unfold pscope1; rw [hp, Res.bind_ok, if_neg hn]
 have hz : psz all (out ++ [v]) = psz all out ++ [y] := by
  unfold psz
  rw [List.map_append]
  simp [List.getD_eq_getElem?_getD, hy]
 refine ⟨?_, by simp [hlen], hlt, fun u hu => ?_, fun out' s' he => ?_, fun e' x' he => ?_⟩
 ·rw [hz]
  exact ⟨h9.rb, h9.fb, h9.sc, h9.sz, h9.ne, h9.tc, by rw [e]; exact h9.qs⟩
 ·rcases List.mem_append.1 hu with hu | hu
  ·exact ran u hu
  ·rw [List.mem_singleton.1 hu]; exact hv
 ·rw [e] at he
  injection he with h1 h2
  have := pnum_len hp
  rw [← h2]
  exact ⟨h1.symm, by omega⟩
 ·rw [e] at he; cases he
theorem pfun_scope_bad {all : List Int} {s : Ps} {r1 : Res (Int × Int)} {k i : Nat} {e x : Int} (h1 : pnum en ee (-4611686018427387904) 4611686018427387904 s = r1) (hk : ∀ v s', r1 = .ok v s' → v.1.natAbs = k)
 (hb : (r1.bind fun _ s => pscope en ee all.length i [] s) = .bad e x) (hi : i ≤ k) : pfun en ee all s = .bad e x := by
 unfold pfun
 rw [show pnum en ee (-far) far s = r1 from h1]
 cases r1 with
 | bad e' x' => rw [Res.bind_bad] at hb ⊢; injection hb with h2 h3; rw [h2, h3]
 | ok v s1 =>
   rw [Res.bind_ok] at hb ⊢
   rw [hk v s1 rfl, pscope_bad hb k hi]
   rfl
theorem F2.oth (h : F2 w wr gr en ee sv vs vz o vl out zs r) (hgl : gr < w.heap.size) (u : Int) : F2 w (wr.setCell ⟨w.heap.size + 1, 2, none⟩ (.int .i64 u)) gr en ee sv vs vz u vl out zs r := by
 have T : Tch wr (wr.setCell ⟨w.heap.size + 1, 2, none⟩ (.int .i64 u)) (fun k => k = w.heap.size + 1) := Tch.put (S := fun k => k = w.heap.size + 1) (Tch.refl wr _) (p := ⟨w.heap.size + 1, 2, none⟩) _ rfl
 obtain ⟨hT, hQ⟩ := h.up hgl T fun k hk => by
  subst hk; exact ⟨by omega, fun cs hb => Blk.ne_ h.fb hb (by decide) rfl⟩
 exact ⟨T.blk h.rb (by omega), h.fb.set_ 2 _, h.sc.tch T (off_below fun k hk => by omega), h.sz.tch T (off_below fun k hk => by omega), h.ne, hT, hQ⟩
/-- its lines are set -/
theorem F2.lin (h : F2 w wr gr en ee sv vs vz o vl out zs r) (hgl : gr < w.heap.size) (u : Value) : F2 w (wr.setCell ⟨w.heap.size + 1, 3, none⟩ u) gr en ee sv vs vz o u out zs r := by
 have T : Tch wr (wr.setCell ⟨w.heap.size + 1, 3, none⟩ u) (fun k => k = w.heap.size + 1) := Tch.put (S := fun k => k = w.heap.size + 1) (Tch.refl wr _) (p := ⟨w.heap.size + 1, 3, none⟩) _ rfl
 obtain ⟨hT, hQ⟩ := h.up hgl T fun k hk => by
  subst hk; exact ⟨by omega, fun cs hb => Blk.ne_ h.fb hb (by decide) rfl⟩
 exact ⟨T.blk h.rb (by omega), h.fb.set_ 3 _, h.sc.tch T (off_below fun k hk => by omega), h.sz.tch T (off_below fun k hk => by omega), h.ne, hT, hQ⟩
theorem capped_snoc {l : List Int} {k n : Int} (hn : capped l 1 = n) : capped (l ++ [k]) 1 = min (n * min k 4097) 4097 := by
 unfold capped at hn ⊢
 rw [List.foldl_append, hn, List.foldl_cons, List.foldl_nil]
/-- the lines, their number being read -/
def pallW (en ee : Int) (sizes : List Int) (n : Int × Int) (s : Ps) : Res (List (List Int × Int)) :=
 if n.1 < 0 then
  (match s.sh[(-n.1 - 1).toNat]? with
   | none => .bad 4 n.2
   | some x => if x.1 = sizes then .ok x.2 s else .bad 4 n.2)
 else plines en ee sizes n.1.toNat [] (plarge (decide (min (s.told + n.1) far > 16384)) n.2 { s with told := min (s.told + n.1) far })
theorem pall_is (sizes : List Int) (s : Ps) : pall en ee sizes s = (pnum en ee (-far) far s).bind (pallW en ee sizes) := rfl
/-- the function up to its number of lines -/
theorem pfun_head {all : List Int} {s : Ps} {r1 : Res (Int × Int)} {k : Nat} {a xa : Int} {out : List Int} {B : Bool} {R : Res (List Int)} (h1 : pnum en ee (-4611686018427387904) 4611686018427387904 s = r1) (hk : ∀ v s', r1 = .ok v s' → v.1.natAbs = k) (ha : ∀ v s', r1 = .ok v s' → a = v.1 ∧ xa = v.2)
 (hR : (r1.bind fun _ s => pscope en ee all.length k [] s) = R) (hout : ∀ out' s', R = .ok out' s' → out' = out) (hB : (decide ((k : Int) > 6) || great (psz all out)) = B) :
 (∀ e x, ((R.bind fun a s => .ok a (plarge B xa s)).bind fun _ s => pnum en ee 0 far s).bind (fun _ s => pnum en ee (-far) far s) = .bad e x → pfun en ee all s = .bad e x) ∧
 (∀ nn s5, ((R.bind fun a s => .ok a (plarge B xa s)).bind fun _ s => pnum en ee 0 far s).bind (fun _ s => pnum en ee (-far) far s) = .ok nn s5 →
  s5.sh = s.sh ∧ s5.told = s.told ∧ s5.l.length ≤ s.l.length ∧
  ∃ ov s4, ((R.bind fun a s => .ok a (plarge B xa s)).bind fun _ s => pnum en ee 0 far s) = .ok ov s4 ∧
   pfun en ee all s = (pallW en ee (psz all out) nn s5).bind fun ls s => .ok ⟨out, psz all out, ov.1, ls⟩ (if a < 0 then { s with sh := s.sh ++ [(psz all out, ls)] } else s)) := by
 have e0 : pfun en ee all s = r1.bind fun a s =>
  (pscope en ee all.length a.1.natAbs [] s).bind fun sc s =>
  (pnum en ee 0 far (plarge (decide ((a.1.natAbs : Int) > 6) || great (psz all sc)) a.2 s)).bind fun o s =>
  (pall en ee (psz all sc) s).bind fun ls s =>
  .ok ⟨sc, psz all sc, o.1, ls⟩ (if a.1 < 0 then { s with sh := s.sh ++ [(psz all sc, ls)] } else s) := by rw [← h1]; rfl
 cases r1 with
 | bad e x =>
   rw [Res.bind_bad] at hR e0
   subst hR
   refine ⟨fun e' x' h => ?_, fun nn s5 h => (by cases h)⟩
   rw [e0]
   have h : (Res.bad e x : Res (Int × Int)) = .bad e' x' := h
   injection h with h2 h3
   subst h2 h3
   rfl
 | ok v s1 =>
   rw [Res.bind_ok] at hR e0
   obtain ⟨rfl, rfl⟩ := ha v s1 rfl
   rw [hk v s1 rfl] at e0
   have q1 := pnum_ok h1
   cases R with
   | bad e x =>
     rw [hR, Res.bind_bad] at e0
     refine ⟨fun e' x' h => ?_, fun nn s5 h => (by cases h)⟩
     rw [e0]
     have h : (Res.bad e x : Res (Int × Int)) = .bad e' x' := h
     injection h with h2 h3
     subst h2 h3
     rfl
   | ok out' s2 =>
     obtain rfl := hout out' s2 rfl
     rw [hR, Res.bind_ok, hB] at e0
     have q2 := pscope_ok _ _ hR
     have ql := plarge_l B v.2 s2
     rw [Res.bind_ok, Res.bind_ok]
     cases h4 : pnum en ee 0 far (plarge B v.2 s2) with
     | bad e x =>
       rw [h4, Res.bind_bad] at e0
       refine ⟨fun e' x' h => ?_, fun nn s5 h => (by cases h)⟩
       rw [e0]
       have h : (Res.bad e x : Res (Int × Int)) = .bad e' x' := h
       injection h with h2 h3
       subst h2 h3
       rfl
     | ok ov s4 =>
       rw [h4, Res.bind_ok, pall_is] at e0
       rw [Res.bind_ok]
       have q4 := pnum_ok h4
       cases h5 : pnum en ee (-far) far s4 with
       | bad e x =>
         rw [h5, Res.bind_bad] at e0
         refine ⟨fun e' x' h => ?_, fun nn s5 h => (by cases h)⟩
         rw [e0]
         have h : (Res.bad e x : Res (Int × Int)) = .bad e' x' := h
         injection h with h2 h3
         subst h2 h3
         rfl
       | ok nn s5 =>
         have q5 := pnum_ok h5
         rw [h5, Res.bind_ok] at e0
         refine ⟨fun e' x' h => (by cases h), fun nn' s5' h => ?_⟩
         injection h with h6 h7
         subst h6 h7
         refine ⟨?_, ?_, ?_, ov, s4, rfl, e0⟩
         ·rw [q5.2.2.1, q4.2.2.1, ql.2.1, q2.2.1, q1.2.2.1]
         ·rw [q5.2.2.2.1, q4.2.2.2.1, ql.2.2, q2.2.2.1, q1.2.2.2.1]
         ·have := q5.2.2.2.2.2
          have := q4.2.2.2.2.2
          have := ql.1
          have := q2.2.2.2.2.1
          have := q1.2.2.2.2.2
          rw [ql.1] at *
          omega
/-- other blocks change -/
theorem F2.off {w' : World} {S : Nat → Prop} (h : F2 w wr gr en ee sv vs vz o vl out zs r) (hgl : gr < w.heap.size) (ht : Tch wr w' S) (hS : ∀ k, S k → w.heap.size + 2 ≤ k ∧ (∀ cs, ¬ Blk wr k 2 cs) ∧ ∀ cs, ¬ Blk wr k 175 cs) : F2 w w' gr en ee sv vs vz o vl out zs r := by
 obtain ⟨hT, hQ⟩ := h.up hgl ht fun k hk => ⟨by have := (hS k hk).1; omega, (hS k hk).2.2⟩
 exact ⟨ht.blk h.rb (fun hk => by have := (hS _ hk).1; omega), ht.blk h.fb (fun hk => by have := (hS _ hk).1; omega), h.sc.tch ht fun k hk => .inr (hS k hk).2.1, h.sz.tch ht fun k hk => .inr (hS k hk).2.1, h.ne, hT, hQ⟩
theorem F2.re {β : Type} {r' : Res β} (h : F2 w wr gr en ee sv vs vz o vl out zs r) (hq : QS wr gr en ee sv r') : F2 w wr gr en ee sv vs vz o vl out zs r' := ⟨h.rb, h.fb, h.sc, h.sz, h.ne, h.tc, hq⟩
/-- the reader behind i lines -/
def rln (en ee : Int) (zs : List Int) (nn xn : Int) (s5 : Ps) (i : Nat) : Res (List (List Int × Int)) :=
 if nn < 0 then pallW en ee zs (nn, xn) s5
 else plines en ee zs i [] (plarge (decide (min (s5.told + nn) far > 16384)) xn { s5 with told := min (s5.told + nn) far })
/-- between the lines' rounds -/
structure LnQ (w wr : World) (gr : Nat) (en ee : Int) (sv vs vz : Value) (o : Int) (vl : Value) (out zs : List Int) (nn xn : Int) (s5 : Ps) (lb : Nat) (L : List LT) (i : Nat) : Prop where
 f2 : F2 w wr gr en ee sv vs vz o vl out zs (rln en ee zs nn xn s5 i)
 ln : QLRow wr lb vl L
 lb : 0 ≤ nn → lb = w.heap.size + 2
 len : 0 ≤ nn → L.length = i
 le : 0 ≤ nn → (i : Int) ≤ nn
 ok : ∀ out' s', rln en ee zs nn xn s5 i = .ok out' s' → out' = L.map (·.2) ∧ (0 ≤ nn → i + s'.l.length ≤ 1000000)
 lim : 0 ≤ nn → i ≤ 1000001
theorem own_max {base n : Nat} {e : TypeId} {size : Nat} {v : Value} {xs : List Value} (h : wr.ownsRow base e size v n xs) : n ≤ 9223372036854775807 := by
 rcases h.2 with ⟨_, h0⟩ | ⟨g, cap, cur, _, _, _, h1, h2, _⟩
 ·omega
 ·simp only [maxLen] at h2; omega
/-- is what is told ahead not to be shared? -/
def shBad (L : List QT) (zs : List Int) (m : Nat) : Bool := match L[m]? with
 | none => true
 | some p => !(eqB p.2.sizes zs)
theorem pallW_sh {zs : List Int} {nn xn : Int} {m : Nat} {s5 : Ps} {sh : List (List Int × List (List Int × Int))} {L : List QT} {fs : List Raw} (hm : nn = -((m : Int) + 1)) (hs : s5.sh = sh) (hfs : (fs.map fun f => (f.sizes, f.lines)) = sh) (hL : L.map (·.2) = fs) :
 (shBad L zs m = true → pallW en ee zs (nn, xn) s5 = .bad 4 xn) ∧ (shBad L zs m = false → ∃ p, L[m]? = some p ∧ p.2.sizes = zs ∧ pallW en ee zs (nn, xn) s5 = .ok p.2.lines s5) := by
 have e : s5.sh[(-nn - 1).toNat]? = L[m]?.map fun p => (p.2.sizes, p.2.lines) := by
  rw [show (-nn - 1).toNat = m by omega, hs, ← hfs, ← hL, List.getElem?_map, List.getElem?_map, Option.map_map]
  rfl
 have hn : nn < 0 := by omega
 unfold pallW shBad
 dsimp only
 rw [if_pos hn, e]
 cases L[m]? with
 | none => exact ⟨fun _ => rfl, fun h => by cases h⟩
 | some p =>
   dsimp only [Option.map]
   by_cases h : p.2.sizes = zs
   ·rw [if_pos h, show eqB p.2.sizes zs = true from decide_eq_true h]
    exact ⟨fun h => (by cases h), fun _ => ⟨p, rfl, h, rfl⟩⟩
   ·rw [if_neg h, show eqB p.2.sizes zs = false from decide_eq_false h]
    exact ⟨fun _ => rfl, fun h => by cases h⟩
/-- what was shared is taken over -/
theorem LnQ.shared {nn xn : Int} {s5 : Ps} {u : Value} {L : List LT} {ls : List (List Int × Int)} (h : F2 w wr gr en ee sv vs vz o vl out zs (.ok (nn, xn) s5 : Res (Int × Int))) (hgl : gr < w.heap.size) (hn : nn < 0) (hp : pallW en ee zs (nn, xn) s5 = .ok ls s5) (hl : QLRow wr 0 u L) (hL : L.map (·.2) = ls) :
 LnQ w (wr.setCell ⟨w.heap.size + 1, 3, none⟩ u) gr en ee sv vs vz o u out zs nn xn s5 0 L 0 := by
 have e : rln en ee zs nn xn s5 0 = .ok ls s5 := by unfold rln; rw [if_pos hn]; exact hp
 have T : Tch wr (wr.setCell ⟨w.heap.size + 1, 3, none⟩ u) (fun k => k = w.heap.size + 1) := Tch.put (S := fun k => k = w.heap.size + 1) (Tch.refl wr _) (p := ⟨w.heap.size + 1, 3, none⟩) _ rfl
 have F := h.lin hgl u
 refine ⟨F.re (by rw [e]; exact F.qs), hl.tch T ?_ ?_, fun h => by omega, fun h => by omega, fun h => by omega, fun out' s' he => ?_, fun h => by omega⟩
 ·intro k hk; subst hk; exact .inr fun cs hb => Blk.ne_ h.fb hb (by decide) rfl
 ·intro k hk; subst hk; exact .inr fun cs hb => Blk.ne_ h.fb hb (by decide) rfl
 ·rw [e] at he
  injection he with h1 _
  exact ⟨by rw [hL, h1], fun h => by omega⟩
/-- no lines so far -/
theorem LnQ.start {nn xn : Int} {s5 : Ps} {γ : Type} {g : Res γ} {gg : γ} (h : F2 w wr gr en ee sv vs vz o (.slice none 0 0) out zs g) (hg : g = .ok gg (plarge (decide (min (s5.told + nn) far > 16384)) xn { s5 with told := min (s5.told + nn) far })) (hn : ¬ nn < 0) (hl : s5.l.length ≤ 1000000) :
 LnQ w wr gr en ee sv vs vz o (.slice none 0 0) out zs nn xn s5 (w.heap.size + 2) [] 0 := by
 have e : rln en ee zs nn xn s5 0 = .ok [] (plarge (decide (min (s5.told + nn) far > 16384)) xn { s5 with told := min (s5.told + nn) far }) := by unfold rln; rw [if_neg hn]; rfl
 refine ⟨h.re (by rw [e]; have := h.qs; rw [hg] at this; exact this), QLRow.nil _ _, fun _ => rfl, fun _ => rfl, fun h => h, fun out' s' he => ?_, fun _ => Nat.zero_le _⟩
 rw [e] at he
 injection he with h1 h2
 refine ⟨h1.symm, fun _ => ?_⟩
 rw [← h2, (plarge_l _ _ _).1]
 dsimp only
 omega
theorem Qok.told {s : Ps} (h : Qok wr gr en ee s sv) (u : Int) : Qok (wr.setCell ⟨gr, 7, none⟩ (.int .i64 u)) gr en ee { s with told := u } sv := by
 obtain ⟨lv, badAt, big, bigAt, hr, hw, hg⟩ := h
 refine ⟨lv, badAt, big, bigAt, hr.set_ 7 _, ?_, hg⟩
 exact hw.tch (Tch.put (S := fun k => k = gr) (Tch.refl wr _) (p := ⟨gr, 7, none⟩) _ rfl) fun k hk cs hb => by subst hk; exact Blk.ne_ hr hb (by decide) rfl
end Go.Proofs.YtjpkkkphhaajgaaGreatDoor.wcp
/- The document's function: its lines, its end. -/
namespace Go.Proofs.YtjpkkkphhaajgaaGreatDoor.wcp
open Go Go.RowKit Go.ChangeShapes Go.WideShapes Go.ChangeAt Go.Maps Go.Proofs.YtjpkkkphhaajgaaGreatDoor.words Go.Proofs.YtjpkkkphhaajgaaGreatDoor.scn
variable {w wr wq w' : World} {gr : Nat} {en ee : Int} {sv : Value} {α β : Type} {r : Res α} {r' : Res β}
/-- a line while it is read: its block stands where the round's blocks begin -/
structure LnX (wr wq : World) (gr : Nat) (en ee : Int) (sv : Value) (t : List Int) (A : Option Addr) (c : Nat) (cc : Int) (r : Res α) : Prop where
 xb : Blk wq wr.heap.size 137 #[.slice A t.length c, .int .i64 cc]
 row : wq.ownsRow (wr.heap.size + 1) 2 1 (.slice A t.length c) t.length (nums t)
 tc : Tch wr wq (fun k => k = gr)
 qs : QS wq gr en ee sv r
variable {t : List Int} {A : Option Addr} {c : Nat} {cc : Int}
theorem LnX.start (hq : QS wr gr en ee sv r) : LnX wr (wr.alloc (.cells #[.slice none 0 0, .int .i64 0] 137)) gr en ee sv [] none 0 0 r :=
 ⟨Blk.new _ _ _, World.ownsRow_nil _ _ _ _, Tch.of_below (bone wr _) _, hq.below (bone wr _)⟩
theorem LnX.tch (h : LnX wr wq gr en ee sv t A c cc r) (hgl : gr < wr.heap.size) (ht : Tch wq w' (fun k => k = gr)) (hq : QS w' gr en ee sv r') : LnX wr w' gr en ee sv t A c cc r' :=
 ⟨ht.blk h.xb (by omega), own_off h.row ht (h.qs.off (by decide)), h.tc.trans ht fun _ _ h => h, hq⟩
theorem LnX.re (h : LnX wr wq gr en ee sv t A c cc r) (hq : QS wq gr en ee sv r') : LnX wr wq gr en ee sv t A c cc r' := ⟨h.xb, h.row, h.tc, hq⟩
theorem LnX.mid {wb w6 : World} {row : Option Nat} (h : LnX wr wq gr en ee sv t A c cc r) (hb : Below wq.heap.size wq wb) (hg : wb.grownBy w6 row) (hr : ∀ q, row = some q → wr.heap.size + 1 ≤ q) : Blk w6 wr.heap.size 137 #[.slice A t.length c, .int .i64 cc] :=
 (h.xb.under hb).grown hg fun e => by have := hr _ e.symm; omega
/-- its tuple grows -/
theorem LnX.app {wb w6 : World} {v : Int} {A6 : Option Addr} {c6 : Nat} (h : LnX wr wq gr en ee sv t A c cc r) (hgl : gr < wr.heap.size) (hb : Below wq.heap.size wq wb)
 (hown : w6.ownsRow (wr.heap.size + 1) 2 1 (.slice A6 (t.length + 1) c6) (t.length + 1) (nums t ++ nums [v])) (hg : wb.grownBy w6 (Value.slice A t.length c).ownBlock) :
 LnX wr (w6.setCell ⟨wr.heap.size, 0, none⟩ (.slice A6 (t.length + 1) c6)) gr en ee sv (t ++ [v]) A6 c6 cc r := by
 have hin : ∀ q, (Value.slice A t.length c).ownBlock = some q → wr.heap.size + 1 ≤ q ∧ q < wq.heap.size := fun q hq => own_in h.row hq
 have hm := h.mid hb hg fun q hq => (hin q hq).1
 have T1 : Tch wq w6 (fun k => some k = (Value.slice A t.length c).ownBlock) := ((Tch.of_below hb (fun k => some k = (Value.slice A t.length c).ownBlock)).trans (Tch.of_grown hg (S := fun k => some k = (Value.slice A t.length c).ownBlock) fun q _ hq => hq) fun _ _ h => h)
 have T2 : Tch w6 (w6.setCell ⟨wr.heap.size, 0, none⟩ (.slice A6 (t.length + 1) c6)) (fun k => k = wr.heap.size) := Tch.put (S := fun k => k = wr.heap.size) (Tch.refl w6 _) (p := ⟨wr.heap.size, 0, none⟩) _ rfl
 have T : Tch wq (w6.setCell ⟨wr.heap.size, 0, none⟩ (.slice A6 (t.length + 1) c6)) (fun k => some k = (Value.slice A t.length c).ownBlock ∨ k = wr.heap.size) := (T1.mono (S' := fun k => some k = (Value.slice A t.length c).ownBlock ∨ k = wr.heap.size) fun k _ h => Or.inl h).trans T2 fun k _ h => Or.inr h
 have hl : (t ++ [v]).length = t.length + 1 := by simp
 refine ⟨?_, ?_, h.tc.trans T fun k hk hs => ?_, h.qs.tch T ?_ ?_⟩
 ·rw [hl]; exact hm.set_ 0 _
 ·rw [hl, show nums (t ++ [v]) = nums t ++ nums [v] by simp [nums]]
  exact own_off hown T2 (off_below fun k hk => by omega)
 ·rcases hs with hs | hs
  ·have := (hin _ hs.symm).1; omega
  ·omega
 ·rintro (hs | hs)
  ·have := (hin _ hs.symm).1; omega
  ·omega
 ·rintro k (hs | rfl) cs hbk
  ·exact own_blk_ne h.row hbk (by decide) hs.symm
  ·exact Blk.ne_ h.xb hbk (by decide) rfl
/-- its cost is set -/
theorem LnX.put (h : LnX wr wq gr en ee sv t A c cc r) (hgl : gr < wr.heap.size) (u : Int) : LnX wr (wq.setCell ⟨wr.heap.size, 1, none⟩ (.int .i64 u)) gr en ee sv t A c u r := by
 have T : Tch wq (wq.setCell ⟨wr.heap.size, 1, none⟩ (.int .i64 u)) (fun k => k = wr.heap.size) := Tch.put (S := fun k => k = wr.heap.size) (Tch.refl wq _) (p := ⟨wr.heap.size, 1, none⟩) _ rfl
 exact ⟨h.xb.set_ 1 _, own_off h.row T (off_below fun k hk => by omega), h.tc.trans T (fun k hk hs => by omega), h.qs.tch T (fun hs => by omega) fun k hk cs hb => by subst hk; exact Blk.ne_ h.xb hb (by decide) rfl⟩
/-! the tuple against those before it -/
def pdup (tt : List Int) (xc : Int) (l : List (List Int)) (r : Res α) : Res Unit := r.bind fun _ s => if tt ∈ l then .bad 4 xc else .ok () s
theorem pdup_next {tt u : List Int} {xc : Int} {l : List (List Int)} {j : Nat} (hu : l[j]? = some u) :
 (∀ e x, pdup tt xc (l.take j) r = .bad e x → pdup tt xc (l.take (j + 1)) r = .bad e x) ∧ (∀ a s, pdup tt xc (l.take j) r = .ok a s → pdup tt xc (l.take (j + 1)) r = if tt = u then .bad 4 xc else .ok () s) := by
 have e : ∀ x : List Int, x ∈ l.take (j + 1) ↔ x ∈ l.take j ∨ x = u := fun x => by rw [List.take_add_one, hu]; simp
 cases r with
 | bad e' x' => exact ⟨fun e x h => h, fun a s h => by cases h⟩
 | ok a0 s0 =>
   unfold pdup
   rw [Res.bind_ok, Res.bind_ok]
   by_cases h1 : tt ∈ l.take j
   ·rw [if_pos h1, if_pos ((e tt).2 (.inl h1))]
    exact ⟨fun e x h => h, fun a s h => by cases h⟩
   ·rw [if_neg h1]
    refine ⟨fun e x h => (by cases h), fun a s h => ?_⟩
    injection h with _ h
    subst h
    by_cases h2 : tt = u
    ·rw [if_pos h2, if_pos ((e tt).2 (.inr h2))]
    ·rw [if_neg h2, if_neg fun h => by rcases (e tt).1 h with h | h <;> contradiction]
theorem pdup_nil {tt : List Int} {xc : Int} (hq : QS wq gr en ee sv r) : QS wq gr en ee sv (pdup tt xc [] r) :=
 hq.same (fun a s e => ⟨(), by rw [e]; unfold pdup; rw [Res.bind_ok, if_neg (by simp)]⟩) fun e x h => by rw [h]; rfl
variable {vs vz vl : Value} {o : Int} {out zs : List Int} {nn xn : Int} {s5 : Ps} {lb : Nat} {L : List LT} {i : Nat}
theorem rln_snoc (hn : 0 ≤ nn) : rln en ee zs nn xn s5 (i + 1) = (rln en ee zs nn xn s5 i).bind fun out s => pline (en := en) (ee := ee) zs out s := by
 unfold rln
 rw [if_neg (by omega), if_neg (by omega), plines_snoc]
/-- a line is appended -/
theorem LnQ.next {wa w6 : World} {v6 : Value} {tt : List Int} {xc : Int} {ls : List (List Int × Int)} {s4 : Ps} (h : LnQ w wr gr en ee sv vs vz o vl out zs nn xn s5 lb L i) (hgl : gr < w.heap.size) (hn : 0 ≤ nn) (hi : (i : Int) < nn) (he : rln en ee zs nn xn s5 i = .ok ls s4)
 (htq : ∀ t' s', ptup en ee zs [] s4 = .ok t' s' → t' = tt) (hv : ∀ v s', ((ptup en ee zs [] s4).bind fun _ s => pnum en ee 0 far s) = .ok v s' → cc = v.1 ∧ xc = v.2)
 (hx : LnX wr wq gr en ee sv tt A c cc (pdup tt xc (L.map (·.2.1)) ((ptup en ee zs [] s4).bind fun _ s => pnum en ee 0 far s)))
 (hb : Below wq.heap.size wq wa) (hown : w6.ownsRow (w.heap.size + 2) 137 2 v6 (L.length + 1) (lcells L ++ [.slice A tt.length c, .int .i64 cc])) (hg : wa.grownBy w6 vl.ownBlock) :
 LnQ w (w6.setCell ⟨w.heap.size + 1, 3, none⟩ v6) gr en ee sv vs vz o v6 out zs nn xn s5 (w.heap.size + 2) (L ++ [(.slice A tt.length c, tt, cc)]) (i + 1) := by
 have hlb := h.lb hn
 subst hlb
 have hsz := h.f2.size
 have hgr : gr < wr.heap.size := by omega
 have F := h.f2.tch hgl hx.tc hx.qs
 have R := h.ln.tch hx.tc (h.f2.qs.off (by decide)) (h.f2.qs.off (by decide))
 have hin : ∀ q, vl.ownBlock = some q → w.heap.size + 2 ≤ q ∧ q < wr.heap.size := fun q hq => own_in h.ln.2.1 hq
 have T1 : Tch wq w6 (fun k => some k = vl.ownBlock) := ((Tch.of_below hb (fun k => some k = vl.ownBlock)).trans (Tch.of_grown hg (S := fun k => some k = vl.ownBlock) fun q _ hq => hq) fun _ _ h => h)
 have F6 := F.off hgl T1 fun k hk => ⟨(hin k hk.symm).1, fun cs hbk => own_blk_ne R.2.1 hbk (by decide) hk.symm, fun cs hbk => own_blk_ne R.2.1 hbk (by decide) hk.symm⟩
 have F7 := F6.lin hgl v6
 have T2 : Tch w6 (w6.setCell ⟨w.heap.size + 1, 3, none⟩ v6) (fun k => k = w.heap.size + 1) := Tch.put (S := fun k => k = w.heap.size + 1) (Tch.refl w6 _) (p := ⟨w.heap.size + 1, 3, none⟩) _ rfl
 have hl : (L ++ [((Value.slice A tt.length c, tt, cc) : LT)]).length = L.length + 1 := by simp
 have hown' : w6.ownsRow (w.heap.size + 2) 137 2 v6 (L ++ [((Value.slice A tt.length c, tt, cc) : LT)]).length (lcells (L ++ [((Value.slice A tt.length c, tt, cc) : LT)])) := by rw [hl, lc_snoc]; exact hown
 have hmm : ∀ l : List LT, l.map (·.2.1) = (l.map (·.2)).map Prod.fst := fun l => by rw [List.map_map]; rfl
 have hpc := pline_cases (out := L.map (·.2)) htq hv
 have hok := h.ok ls s4 he
 have hnx : rln en ee zs nn xn s5 (i + 1) = pline (en := en) (ee := ee) zs (L.map (·.2)) s4 := by rw [rln_snoc hn, he, Res.bind_ok, hok.1]
 rw [← hmm] at hpc
 refine ⟨F7.re ?_, ⟨?_, own_off hown' T2 (off_below fun k hk => by omega), fun p hp => ?_⟩, fun _ => rfl, fun _ => by rw [hl, h.len hn], fun _ => by omega, fun out' s' hp => ?_, fun _ => ?_⟩
 ·refine F7.qs.same (fun a s e => ?_) fun e x e' => ?_
  ·rcases hpc with ⟨er, x0, hB, hP⟩ | ⟨s6, hB, hP⟩
   ·rw [hB] at e; cases e
   ·rw [hB] at e
    unfold pdup at e
    rw [Res.bind_ok] at e
    rw [hnx, hP]
    by_cases hm : tt ∈ L.map (·.2.1)
    ·rw [if_pos hm] at e; cases e
    ·rw [if_neg hm] at e ⊢
     injection e with _ e
     rw [e]
     exact ⟨_, rfl⟩
  ·rcases hpc with ⟨er, x0, hB, hP⟩ | ⟨s6, hB, hP⟩
   ·rw [hB] at e'
    have e'' : (Res.bad er x0 : Res Unit) = .bad e x := e'
    injection e'' with h1 h2
    rw [hnx, hP, h1, h2]
   ·rw [hB] at e'
    unfold pdup at e'
    rw [Res.bind_ok] at e'
    rw [hnx, hP]
    by_cases hm : tt ∈ L.map (·.2.1)
    ·rw [if_pos hm] at e' ⊢
     injection e' with h1 h2
     rw [h1, h2]
    ·rw [if_neg hm] at e'; cases e'
 ·obtain ⟨A6, c6, rfl⟩ := own_shape hown'; exact ⟨A6, c6, rfl⟩
 ·have o1 : Off wq (w.heap.size + 2) (fun k => some k = vl.ownBlock) 2 := off_own R.2.1 (by decide)
  have o2 : Off w6 (w.heap.size + 2) (fun k => k = w.heap.size + 1) 2 := off_below fun k hk => by omega
  rcases List.mem_append.1 hp with hp | hp
  ·exact ((R.2.2 p hp).tch T1 o1).tch T2 o2
  ·rw [List.mem_singleton.1 hp]
   exact ((Row64.down (b' := w.heap.size + 2) (⟨⟨_, _, rfl⟩, hx.row⟩ : Row64 wq (wr.heap.size + 1) (.slice A tt.length c) tt) (by omega)).tch T1 o1).tch T2 o2
 ·rw [hnx] at hp
  obtain ⟨t', c', e1, -, -, -, -, e5, -, -⟩ := pline_ok hp
  have h2 := hok.2 hn
  refine ⟨?_, fun _ => by omega⟩
  rcases hpc with ⟨er, x0, hB, hP⟩ | ⟨s6, hB, hP⟩
  ·rw [hP] at hp; cases hp
  ·rw [hP] at hp
   by_cases hm : tt ∈ L.map (·.2.1)
   ·rw [if_pos hm] at hp; cases hp
   ·rw [if_neg hm] at hp
    injection hp with hp _
    rw [← hp, List.map_append]
    rfl
 ·have := hok.2 hn; omega
/-- behind the lines -/
theorem LnQ.done (h : LnQ w wr gr en ee sv vs vz o vl out zs nn xn s5 lb L i) (hx : nn < 0 ∨ (i : Int) = nn ∨ ∃ e x, rln en ee zs nn xn s5 i = .bad e x) :
 F2 w wr gr en ee sv vs vz o vl out zs (pallW en ee zs (nn, xn) s5) ∧ QLRow wr 0 vl L ∧ (∀ ls s', pallW en ee zs (nn, xn) s5 = .ok ls s' → ls = L.map (·.2)) := by
 have e : rln en ee zs nn xn s5 i = pallW en ee zs (nn, xn) s5 := by
  by_cases hn : nn < 0
  ·unfold rln; rw [if_pos hn]
  ·have e1 : pallW en ee zs (nn, xn) s5 = plines en ee zs nn.toNat [] (plarge (decide (min (s5.told + nn) far > 16384)) xn { s5 with told := min (s5.told + nn) far }) := by
    unfold pallW; dsimp only; rw [if_neg hn]
   have e2 : rln en ee zs nn xn s5 i = plines en ee zs i [] (plarge (decide (min (s5.told + nn) far > 16384)) xn { s5 with told := min (s5.told + nn) far }) := by
    unfold rln; rw [if_neg hn]
   rcases hx with hx | hx | ⟨e, x, hx⟩
   ·exact absurd hx hn
   ·rw [e1, e2, show nn.toNat = i by omega]
   ·have := h.le (by omega)
    rw [hx, e1]
    rw [e2] at hx
    exact (plines_bad zs hx nn.toNat (by omega)).symm
 refine ⟨by rw [← e]; exact h.f2, h.ln.down (Nat.zero_le _), fun ls s' he => ?_⟩
 rw [← e] at he
 exact (h.ok ls s' he).1
theorem pallW_ok {ls : List (List Int × Int)} {s' : Ps} (h : pallW en ee zs (nn, xn) s5 = .ok ls s') : s'.sh = s5.sh := by
 unfold pallW at h
 dsimp only at h
 by_cases hn : nn < 0
 ·rw [if_pos hn] at h
  cases hs : s5.sh[(-nn - 1).toNat]? with
  | none => rw [hs] at h; cases h
  | some x =>
    rw [hs] at h
    dsimp only at h
    by_cases hz : x.1 = zs
    ·rw [if_pos hz] at h; injection h with _ h; rw [h]
    ·rw [if_neg hz] at h; cases h
 ·rw [if_neg hn] at h
  have := (plines_ok _ h).2.1
  rw [this, (plarge_l _ _ _).2.1]
/-- the function is handed on -/
theorem QFunR.late {all : List Int} {s : Ps} {a : Int} (h : F2 w wr gr en ee sv vs vz o vl out zs (pallW en ee zs (nn, xn) s5)) (hl : QLRow wr 0 vl L) (hls : ∀ ls s', pallW en ee zs (nn, xn) s5 = .ok ls s' → ls = L.map (·.2)) (hgl : gr < w.heap.size) (h0 : Qok w gr en ee s sv)
 (hp : pfun en ee all s = (pallW en ee zs (nn, xn) s5).bind fun ls s => .ok ⟨out, zs, o, ls⟩ (if a < 0 then { s with sh := s.sh ++ [(zs, ls)] } else s)) (ha : ¬ a < 0) (hsh : QSh w sv s.sh) (h5 : s5.sh = s.sh) {wf : World}
 (hw : (((wr.setCell ⟨w.heap.size, 0, none⟩ vs).setCell ⟨w.heap.size, 1, none⟩ vz).setCell ⟨w.heap.size, 2, none⟩ (.int .i64 o)).setCell ⟨w.heap.size, 3, none⟩ vl = wf) :
 Blk wf w.heap.size 70 #[vs, vz, .int .i64 o, vl] ∧ QFunR w gr en ee all s sv (.returned (.agg #[vs, vz, .int .i64 o, vl])) wf := by
 obtain ⟨hb, ht⟩ := raw_put h.rb hw
 obtain ⟨A1, c1, e1⟩ := h.sc.1
 obtain ⟨A2, c2, e2⟩ := h.sz.1
 obtain ⟨A3, c3, e3⟩ := hl.1
 have hno : ∀ (ty : TypeId), 70 ≠ ty → Off wr 0 (fun k => k = w.heap.size) ty := fun ty hne k hk => .inr fun cs hbk => by subst hk; exact Blk.ne_ h.rb hbk hne rfl
 have hq0 : QS w gr en ee sv (.ok () s : Res Unit) := h0
 obtain ⟨hT, hQ⟩ := h.up hgl ht fun k hk => ⟨by omega, fun cs hb => by subst hk; exact Blk.ne_ h.rb hb (by decide) rfl⟩
 refine ⟨hb, vs, vz, o, vl, sv, rfl, ⟨⟨A1, _, c1, e1⟩, ⟨A2, _, c2, e2⟩, ⟨A3, _, c3, e3⟩⟩, fun k hk => .inl hk, hT.mono fun k _ h => .inl h, ?_, fun f s' he => ?_⟩
 ·rw [hp]
  refine hQ.same (fun ls s1 e => ?_) fun e x e' => by rw [e']; rfl
  rw [e, Res.bind_ok, if_neg ha]
  exact ⟨_, rfl⟩
 ·rw [hp] at he
  cases hpw : pallW en ee zs (nn, xn) s5 with
  | bad e x => rw [hpw] at he; cases he
  | ok ls s1 =>
    rw [hpw, Res.bind_ok, if_neg ha] at he
    injection he with he1 he2
    subst he1 he2
    refine ⟨⟨rfl, (h.sc.down (Nat.zero_le _)).tch ht (hno _ (by decide)), (h.sz.down (Nat.zero_le _)).tch ht (hno _ (by decide)), ⟨L, (hls ls s1 hpw).symm, hl.tch ht (hno _ (by decide)) (hno _ (by decide))⟩⟩, ?_⟩
    rw [pallW_ok hpw, h5]
    exact hsh.tch hT (hq0.off (by decide)) (hq0.off (by decide)) (hq0.off (by decide))
theorem QS.share (h : QS wr gr en ee sv r) (u : Value) : QS (wr.setCell ⟨gr, 8, none⟩ u) gr en ee u r := by
 cases r with
 | ok a s =>
   obtain ⟨lv, badAt, big, bigAt, hr, hw, hg⟩ := h
   refine ⟨lv, badAt, big, bigAt, hr.set_ 8 _, ?_, hg⟩
   exact hw.tch (Tch.put (S := fun k => k = gr) (Tch.refl wr _) (p := ⟨gr, 8, none⟩) _ rfl) fun k hk cs hb => by subst hk; exact Blk.ne_ hr hb (by decide) rfl
 | bad e x =>
   obtain ⟨lv, big, bigAt, told, hr, he⟩ := h
   exact ⟨lv, big, bigAt, told, hr.set_ 8 _, he⟩
/-- while what is shared grows -/
theorem F2.share {w1 w9 : World} {n : Nat} {xs : List Value} (h : F2 w wr gr en ee sv vs vz o vl out zs r) (hgl : gr < w.heap.size) (hso : w.ownsRow 0 70 4 sv n xs) (h0 : Qok w gr en ee s5 sv) (hb : Below wr.heap.size wr w1) (hg : w1.grownBy w9 sv.ownBlock) :
 (∀ u, Blk (w9.setCell ⟨gr, 8, none⟩ u) w.heap.size 70 #[.slice none 0 0, .slice none 0 0, .int .i64 0, .slice none 0 0] ∧ Blk (w9.setCell ⟨gr, 8, none⟩ u) (w.heap.size + 1) 70 #[vs, vz, .int .i64 o, vl]) ∧
  w9.cell? ⟨gr, 8, none⟩ = some sv ∧ w9.frozen? ⟨gr, 8, none⟩ = false ∧ QS w9 gr en ee sv r ∧ Tch wr w9 (fun k => some k = sv.ownBlock) := by
 have hq0 : QS w gr en ee sv (.ok () s5 : Res Unit) := h0
 have hlt : ∀ q, sv.ownBlock = some q → q < w.heap.size := fun q hq => (own_in hso hq).2
 have hsz := h.size
 obtain ⟨_, _, _, _, _, _, hr, _⟩ := h.qs.blk
 obtain ⟨_, _, _, _, _, _, hr0, _⟩ := hq0.blk
 have hng : sv.ownBlock ≠ some gr := own_blk_ne hso hr0 (by decide)
 have T1 : Tch wr w9 (fun k => some k = sv.ownBlock) := ((Tch.of_below hb (fun k => some k = sv.ownBlock)).trans (Tch.of_grown hg (S := fun k => some k = sv.ownBlock) fun q _ hq => hq) fun _ _ h => h)
 have hr9 := T1.blk hr fun hk => hng hk.symm
 refine ⟨fun u => ?_, (QB.cells hr9).2.2.2.2.2.2.2.2.1, (QB.cells hr9).2.2.2.2.2.2.2.2.2 8, h.qs.tch T1 (fun hk => hng hk.symm) fun k hk cs hbk => ?_, T1⟩
 ·have T2 : Tch w9 (w9.setCell ⟨gr, 8, none⟩ u) (fun k => k = gr) := Tch.put (S := fun k => k = gr) (Tch.refl w9 _) (p := ⟨gr, 8, none⟩) _ rfl
  exact ⟨T2.blk (T1.blk h.rb fun hk => by have := hlt _ hk.symm; omega) (by omega), T2.blk (T1.blk h.fb fun hk => by have := hlt _ hk.symm; omega) (by omega)⟩
 ·have hso' := own_off hso h.tc (hq0.off (by decide))
  exact own_blk_ne hso' hbk (by decide) hk.symm
/-- the function is handed on, and shared -/
theorem QFunR.neg {all : List Int} {s : Ps} {a : Int} {SL : List QT} {fs : List Raw} {w1 w9 : World} {v9 : Value} (h : F2 w wr gr en ee sv vs vz o vl out zs (pallW en ee zs (nn, xn) s5)) (hl : QLRow wr 0 vl L) (hls : ∀ ls s', pallW en ee zs (nn, xn) s5 = .ok ls s' → ls = L.map (·.2)) (hgl : gr < w.heap.size) (h0 : Qok w gr en ee s sv)
 (hp : pfun en ee all s = (pallW en ee zs (nn, xn) s5).bind fun ls s => .ok ⟨out, zs, o, ls⟩ (if a < 0 then { s with sh := s.sh ++ [(zs, ls)] } else s)) (ha : a < 0) (h5 : s5.sh = s.sh)
 (hfs : (fs.map fun f => (f.sizes, f.lines)) = s.sh) (hL : SL.map (·.2) = fs) (hso : w.ownsRow 0 70 4 sv SL.length (qcells SL)) (hsp : ∀ p ∈ SL, QFn w p.1.1 p.1.2.1 p.1.2.2.1 p.1.2.2.2 p.2)
 (hb : Below wr.heap.size wr w1) (hown : w9.ownsRow 0 70 4 v9 (SL.length + 1) (qcells SL ++ [vs, vz, .int .i64 o, vl])) (hg : w1.grownBy w9 sv.ownBlock) (hat : v9.ownBlock = sv.ownBlock ∨ v9.ownBlock = some w1.heap.size) {wf : World}
 (hw : ((((w9.setCell ⟨gr, 8, none⟩ v9).setCell ⟨w.heap.size, 0, none⟩ vs).setCell ⟨w.heap.size, 1, none⟩ vz).setCell ⟨w.heap.size, 2, none⟩ (.int .i64 o)).setCell ⟨w.heap.size, 3, none⟩ vl = wf) :
 Blk wf w.heap.size 70 #[vs, vz, .int .i64 o, vl] ∧ QFunR w gr en ee all s sv (.returned (.agg #[vs, vz, .int .i64 o, vl])) wf := by
 obtain ⟨hbk, -, -, q9, T1⟩ := h.share hgl hso h0 hb hg
 obtain ⟨hr9, -⟩ := hbk v9
 obtain ⟨hbf, ht⟩ := raw_put hr9 hw
 obtain ⟨A1, c1, e1⟩ := h.sc.1
 obtain ⟨A2, c2, e2⟩ := h.sz.1
 obtain ⟨A3, c3, e3⟩ := hl.1
 have hsz := h.size
 have hbs := hb.size
 have hlt : ∀ q, sv.ownBlock = some q → q < w.heap.size := fun q hq => (own_in hso hq).2
 have hq0 : QS w gr en ee sv (.ok () s : Res Unit) := h0
 have hsw := own_off hso h.tc (hq0.off (by decide))
 have T2 : Tch w9 (w9.setCell ⟨gr, 8, none⟩ v9) (fun k => k = gr) := Tch.put (S := fun k => k = gr) (Tch.refl w9 _) (p := ⟨gr, 8, none⟩) _ rfl
 have TF : Tch wr wf (fun k => some k = sv.ownBlock ∨ k = gr ∨ k = w.heap.size) := ((T1.mono (S' := fun k => some k = sv.ownBlock ∨ k = gr ∨ k = w.heap.size) fun k _ h => Or.inl h).trans T2 fun k _ h => Or.inr (Or.inl h)).trans ht fun k _ h => Or.inr (Or.inr h)
 have TW : Tch w wf (fun k => k = gr ∨ some k = sv.ownBlock) := (h.tc.mono (S' := fun k => k = gr ∨ some k = sv.ownBlock) fun k _ h => Or.inl h).trans TF fun k hk hs => by
  rcases hs with hs | hs | hs
  ·exact .inr hs
  ·exact .inl hs
  ·omega
 have qf : QS wf gr en ee v9 (pallW en ee zs (nn, xn) s5) := (q9.share v9).tch ht (by omega) fun k hk cs hb => by subst hk; exact Blk.ne_ hr9 hb (by decide) rfl
 obtain ⟨_, _, _, _, _, _, hrw, _⟩ := h.qs.blk
 have oty : ∀ (ty : TypeId), 70 ≠ ty → 173 ≠ ty → Off wr 0 (fun k => some k = sv.ownBlock ∨ k = gr ∨ k = w.heap.size) ty := by
  intro ty hn1 hn2 k hk
  refine .inr fun cs hbx => ?_
  rcases hk with hk | hk | hk
  ·exact own_blk_ne hsw hbx hn1 hk.symm
  ·exact Blk.ne_ hrw hbx hn2 hk.symm
  ·exact Blk.ne_ h.rb hbx hn1 hk.symm
 have otw : ∀ (ty : TypeId), 70 ≠ ty → 173 ≠ ty → Off w 0 (fun k => k = gr ∨ some k = sv.ownBlock) ty := by
  intro ty hn1 hn2 k hk
  rcases hk with rfl | hk
  ·exact (hq0.off hn2) k rfl
  ·exact .inr fun cs hbk => own_blk_ne hso hbk hn1 hk.symm
 refine ⟨hbf, vs, vz, o, vl, v9, rfl, ⟨⟨A1, _, c1, e1⟩, ⟨A2, _, c2, e2⟩, ⟨A3, _, c3, e3⟩⟩, fun k hk => ?_, TW, ?_, fun f s' he => ?_⟩
 ·rcases hat with e | e
  ·rw [e] at hk; exact .inl hk
  ·rw [e] at hk; injection hk with hk; right; omega
 ·rw [hp]
  cases hpw : pallW en ee zs (nn, xn) s5 with
  | bad e x => rw [hpw] at qf; exact qf
  | ok ls s1 => rw [hpw] at qf; rw [Res.bind_ok, if_pos ha]; exact qf
 ·rw [hp] at he
  cases hpw : pallW en ee zs (nn, xn) s5 with
  | bad e x => rw [hpw] at he; cases he
  | ok ls s1 =>
    rw [hpw, Res.bind_ok, if_pos ha] at he
    injection he with he1 he2
    subst he1 he2
    have hfn : QFn wf vs vz o vl ⟨out, zs, o, ls⟩ := ⟨rfl, (h.sc.down (Nat.zero_le _)).tch TF (oty _ (by decide) (by decide)), (h.sz.down (Nat.zero_le _)).tch TF (oty _ (by decide) (by decide)), ⟨L, (hls ls s1 hpw).symm, hl.tch TF (oty _ (by decide) (by decide)) (oty _ (by decide) (by decide))⟩⟩
    refine ⟨hfn, fs ++ [⟨out, zs, o, ls⟩], ?_, SL ++ [((vs, vz, o, vl), ⟨out, zs, o, ls⟩)], by rw [List.map_append, hL]; rfl, ?_, ?_, fun p hp => ?_⟩
    ·rw [List.map_append, hfs, pallW_ok hpw, h5]; rfl
    ·obtain ⟨A9, c9, rfl⟩ := own_shape hown; exact ⟨A9, c9, by simp⟩
    ·have hl1 : (SL ++ [((vs, vz, o, vl), (⟨out, zs, o, ls⟩ : Raw))]).length = SL.length + 1 := by simp
     rw [hl1, qc_snoc]
     have h1 := own_off hown T2 fun k hk => .inr fun cs hbx => by
      obtain ⟨_, _, _, _, _, _, hr9', _⟩ := q9.blk
      exact Blk.ne_ hr9' hbx (by decide) hk.symm
     refine ht.own h1 fun g hg hk => ?_
     subst hk
     rcases hat with e | e
     ·rw [e] at hg; have := hlt _ hg; omega
     ·rw [e] at hg; injection hg with hg; omega
    ·rcases List.mem_append.1 hp with hp | hp
     ·exact (hsp p hp).tch TW (otw _ (by decide) (by decide)) (otw _ (by decide) (by decide))
     ·rw [List.mem_singleton.1 hp]; exact hfn
theorem tup_qs {j : Nat} {y : Int} {s4 : Ps} (hy : zs[j]? = some y) (h : QS wq gr en ee sv ((ptup en ee (zs.take j) [] s4).bind fun _ s => pnum en ee 0 (y - 1) s)) : QS wq gr en ee sv (ptup en ee (zs.take (j + 1)) [] s4) := by
 rw [tup_next hy]
 refine h.same (fun a s e => ?_) fun e0 x0 e => ?_
 ·cases hA : ptup en ee (zs.take j) [] s4 with
  | bad e0 x0 => rw [hA] at e; cases e
  | ok t s0 =>
    rw [hA, Res.bind_ok] at e
    rw [Res.bind_ok, e]
    exact ⟨_, rfl⟩
 ·cases hA : ptup en ee (zs.take j) [] s4 with
  | bad e1 x1 =>
    rw [hA] at e
    have e' : (Res.bad e1 x1 : Res (Int × Int)) = .bad e0 x0 := e
    injection e' with h1 h2
    rw [h1, h2]; rfl
  | ok t s0 =>
    rw [hA, Res.bind_ok] at e
    rw [Res.bind_ok, e]
    rfl
theorem tup_val {j : Nat} {y v x : Int} {s4 : Ps} {tt : List Int} (hy : zs[j]? = some y) (htq : ∀ t' s', ptup en ee (zs.take j) [] s4 = .ok t' s' → t' = tt) (hv : ∀ v' s', ((ptup en ee (zs.take j) [] s4).bind fun _ s => pnum en ee 0 (y - 1) s) = .ok v' s' → v = v'.1 ∧ x = v'.2) :
 ∀ t' s', ptup en ee (zs.take (j + 1)) [] s4 = .ok t' s' → t' = tt ++ [v] := by
 intro t' s' he
 rw [tup_next hy] at he
 cases hpt : ptup en ee (zs.take j) [] s4 with
 | bad e1 x1 => rw [hpt] at he; cases he
 | ok t1 s1 =>
   rw [hpt, Res.bind_ok] at he hv
   cases hpn : pnum en ee 0 (y - 1) s1 with
   | bad e1 x1 => rw [hpn] at he; cases he
   | ok v1 s2 =>
     rw [hpn, Res.bind_ok] at he
     injection he with he _
     rw [← he, htq t1 s1 hpt, (hv v1 s2 hpn).1]
/-- cells of a row of lines -/
theorem qlc_at {L : List LT} {i : Nat} {p : LT} (h : L[i]? = some p) : (lcells L)[i * 2]? = some p.1 ∧ (lcells L)[i * 2 + 1]? = some (.int .i64 p.2.2) := by
 induction L generalizing i with
 | nil => simp at h
 | cons q L ih =>
   cases i with
   | zero => simp at h; subst h; exact ⟨rfl, rfl⟩
   | succ i =>
     have := ih (i := i) (by simpa using h)
     rw [show (i + 1) * 2 = i * 2 + 1 + 1 by omega]
     exact this
theorem qok_of {γ : Type} {g : Res γ} {a : γ} {s4 : Ps} {b : β} (hq : QS wq gr en ee sv g) (hg : g = .ok a s4) : QS wq gr en ee sv (.ok b s4 : Res β) := by
 rw [hg] at hq; exact hq
theorem good_ok {γ : Type} {g : Res γ} (h : g.good = true) : ∃ a s, g = .ok a s := by
 cases g with
 | ok a s => exact ⟨a, s, rfl⟩
 | bad e x => cases h
theorem bad_of {γ : Type} {g : Res γ} (h : ¬ g.good = true) : ∃ e x, g = .bad e x := by
 cases g with
 | ok a s => exact absurd rfl h
 | bad e x => exact ⟨e, x, rfl⟩
end Go.Proofs.YtjpkkkphhaajgaaGreatDoor.wcp
/- The document's next function: behind its lines. -/
namespace Go.Proofs.YtjpkkkphhaajgaaGreatDoor.wcp
open Go Go.RowKit Go.ChangeShapes Go.WideShapes Go.ChangeAt Go.Maps Go.Proofs.YtjpkkkphhaajgaaGreatDoor.words Go.Proofs.YtjpkkkphhaajgaaGreatDoor.scn
variable {w wt : World} {gr : Nat} {en ee : Int} {sv : Value}
/-- behind the first statements -/
def sfx : Nat → Code → Code
 | 0, c => c
 | n + 1, .seq a b => sfx n b
 | _ + 1, c => c
noncomputable def qbody : Code := Tryz.f90.body.getD .skip
set_option maxRecDepth 1000000 in
set_option maxHeartbeats 8000000 in
theorem qfun_end {all : List Int} {s s5 : Ps} {a oo nn xn : Int} {vs vz vl : Value} {out zs : List Int} {L : List LT} (F3 : F2 w wt gr en ee sv vs vz oo vl out zs (pallW en ee zs (nn, xn) s5)) (hl : QLRow wt 0 vl L) (hls : ∀ ls s', pallW en ee zs (nn, xn) s5 = .ok ls s' → ls = L.map (·.2)) (hgl : gr < w.heap.size) (h0 : Qok w gr en ee s sv)
 (hp : pfun en ee all s = (pallW en ee zs (nn, xn) s5).bind fun ls s => .ok ⟨out, zs, oo, ls⟩ (if a < 0 then { s with sh := s.sh ++ [(zs, ls)] } else s)) (hsh : QSh w sv s.sh) (hshl : s.sh.length ≤ 900000) (h5 : s5.sh = s.sh)
 {k1 k2 k3 k6 k7 k9 k10 k11 k12 k13 k14 k15 k16 k17 k18 k19 k20 k21 k22 k23 k24 k25 k26 k27 k28 k29 k30 k31 k32 k33 k34 k35 k36 k37 k38 k39 k40 k41 k42 k43 k44 k45 k46 k47 k48 k49 k50 k51 k52 k53 k54 k55 k56 k57 k58 k59 k60 k61 k62 k63 k64 k65 k66 k67 k68 k69 k70 k71 k72 k73 k74 k75 k76 k77 k78 k79 k80 k81 k82 k83 k84 k85 k86 k87 k88 k89 k90 k91 k92 k93 k94 k95 k96 k97 k98 k99 k100 k101 k102 k103 k104 k105 k106 k107 k108 k109 k110 k111 k112 k113 k114 k115 k116 k117 k118 k119 k120 k121 k122 k123 k124 k125 k126 k127 k128 k129 k130 k131 k132 k133 k134 k135 k136 k137 k138 k139 k140 k141 k142 k143 k144 k145 k146 k147 k148 k149 k150 k151 k152 k153 k154 k155 k156 k157 k158 k159 k160 k161 k162 k163 k164 k165 k166 k167 k168 k169 k170 k171 k172 k173 k174 k175 k176 k177 k178 k179 k180 k181 k182 k183 k184 k185 k186 k187 k188 k189 k190 k191 k192 k193 k194 k195 k196 k197 k198 k199 k200 k201 k202 k203 k204 k205 k206 k207 k208 k209 k210 k211 k212 k213 k214 k215 k216 k217 k218 k219 k220 k221 k222 k223 k224 k225 k226 k227 k228 k229 k230 k231 k232 k233 k234 k235 k236 k237 k238 k239 k240 k241 k242 k243 k244 k245 k246 k247 k248 k249 k250 k251 k252 k253 k254 k255 k256 k257 k258 k259 k260 k261 k262 k263 k264 k265 k266 k267 k268 k269 k270 k271 k272 k273 k274 k275 k276 k277 k278 k279 k280 : Value} :
 Code.wp Tryz.prog (sfx 14 qbody) (bodyPost Tryz.prog Tryz.f90 fun e w' => QFunR w gr en ee all s sv e w') ⟨#[.pointer (some ⟨gr, 0, none⟩), k1, k2, k3, .pointer (some ⟨w.heap.size, 0, none⟩), .pointer (some ⟨w.heap.size + 1, 0, none⟩), k6, k7, .bool (decide (a < 0)), k9, k10, k11, k12, k13, k14, k15, k16, k17, k18, k19, k20, k21, k22, k23, k24, k25, k26, k27, k28, k29, k30, k31, k32, k33, k34, k35, k36, k37, k38, k39, k40, k41, k42, k43, k44, k45, k46, k47, k48, k49, k50, k51, k52, k53, k54, k55, k56, k57, k58, k59, k60, k61, k62, k63, k64, k65, k66, k67, k68, k69, k70, k71, k72, k73, k74, k75, k76, k77, k78, k79, k80, k81, k82, k83, k84, k85, k86, k87, k88, k89, k90, k91, k92, k93, k94, k95, k96, k97, k98, k99, k100, k101, k102, k103, k104, k105, k106, k107, k108, k109, k110, k111, k112, k113, k114, k115, k116, k117, k118, k119, k120, k121, k122, k123, k124, k125, k126, k127, k128, k129, k130, k131, k132, k133, k134, k135, k136, k137, k138, k139, k140, k141, k142, k143, k144, k145, k146, k147, k148, k149, k150, k151, k152, k153, k154, k155, k156, k157, k158, k159, k160, k161, k162, k163, k164, k165, k166, k167, k168, k169, k170, k171, k172, k173, k174, k175, k176, k177, k178, k179, k180, k181, k182, k183, k184, k185, k186, k187, k188, k189, k190, k191, k192, k193, k194, k195, k196, k197, k198, k199, k200, k201, k202, k203, k204, k205, k206, k207, k208, k209, k210, k211, k212, k213, k214, k215, k216, k217, k218, k219, k220, k221, k222, k223, k224, k225, k226, k227, k228, k229, k230, k231, k232, k233, k234, k235, k236, k237, k238, k239, k240, k241, k242, k243, k244, k245, k246, k247, k248, k249, k250, k251, k252, k253, k254, k255, k256, k257, k258, k259, k260, k261, k262, k263, k264, k265, k266, k267, k268, k269, k270, k271, k272, k273, k274, k275, k276, k277, k278, k279, k280], []⟩ wt := by
 conv => arg 2; whnf
 obtain ⟨iF, hF0, hF1, hF2, hF3⟩ := info_parts infoQF
 obtain ⟨A1, d1, rfl⟩ := F3.sc.1
 obtain ⟨A2, d2, rfl⟩ := F3.sz.1
 obtain ⟨A3, d3, rfl⟩ := hl.1
 obtain ⟨y0, y1, y2, y3, -⟩ := Blk.four (t := 70) F3.fb
 obtain ⟨z0, z1, z2, z3, zf0, zf1, zf2, zf3⟩ := Blk.four (t := 70) F3.rb
 have HF := Lib.hid F3
 have HL := Lib.hid hl
 have HLS := Lib.hid hls
 have H0 := Lib.hid h0
 have HP := Lib.hid hp
 have HSH := Lib.hid hsh
 have H5 := Lib.hid h5
 clear F3 hl hls h0 hp hsh h5
 by_cases ha : a < 0
 ·have haI : decide (a < 0) = true := decide_eq_true ha
  obtain ⟨fs, hfs, SL, hSL, ⟨SA, SC, rfl⟩, hso, hsp⟩ := HSH.out
  have hSLl : SL.length ≤ 900000 := by
   have h1 : SL.length = s.sh.length := by rw [← hfs, ← hSL, List.length_map, List.length_map]
   omega
  have hsw := own_off hso HF.out.tc (QS.off (r := (.ok () s : Res Unit)) H0.out (by decide))
  obtain ⟨_, _, _, _, _, _, hqb, -⟩ := HF.out.qs.blk
  have e8 := (QB.cells hqb).2.2.2.2.2.2.2.2.1
  have E8 := (QB.cells (Blk.alloc hqb (.cells #[.slice A1 out.length d1, .slice A2 zs.length d2, .int .i64 oo, .slice A3 L.length d3] 70))).2.2.2.2.2.2.2.2.1
  obtain ⟨Y0, Y1, Y2, Y3, -⟩ := Blk.four (t := 70) (HF.out.fb.alloc (.cells #[.slice A1 out.length d1, .slice A2 zs.length d2, .int .i64 oo, .slice A3 L.length d3] 70))
  have hA9 := (hsw.alloc (.cells #[.slice A1 out.length d1, .slice A2 zs.length d2, .int .i64 oo, .slice A3 L.length d3] 70)).drew
  have hr9 : Reads (wt.alloc (.cells #[.slice A1 out.length d1, .slice A2 zs.length d2, .int .i64 oo, .slice A3 L.length d3] 70)).drew (wt.alloc (.cells #[.slice A1 out.length d1, .slice A2 zs.length d2, .int .i64 oo, .slice A3 L.length d3] 70)).heap.size 4 (some ⟨wt.heap.size, 0, none⟩) 1 [.slice A1 out.length d1, .slice A2 zs.length d2, .int .i64 oo, .slice A3 L.length d3] := reads_four (t := 70) (heap_alloc_new _ _)
  have hone : ∀ u ∈ [Value.slice A1 out.length d1, .slice A2 zs.length d2, .int .i64 oo, .slice A3 L.length d3], u.oneCell' = true := fun u hu => by
   simp only [List.mem_cons, List.not_mem_nil, or_false] at hu
   rcases hu with rfl | rfl | rfl | rfl <;> rfl
  have HSO := Lib.hid hso
  have HSP := Lib.hid hsp
  have HSL := Lib.hid hSL
  have HFS := Lib.hid hfs
  have HONE := Lib.hid hone
  clear hso hsp hSL hfs hone hqb hsw
  go_upto_region 65 with fail
  go_region_law (refine step_append_any _ rfl (.tmp 274) (.tmp 276) 47 rfl 0 70 iF _ 4 80 Tryz.underlying47 hF0 hF1 hF2 hF3 rfl (by omega) (.slice SA SL.length SC) SL.length _ rfl hA9 (wt.alloc (.cells #[.slice A1 out.length d1, .slice A2 zs.length d2, .int .i64 oo, .slice A3 L.length d3] 70)).heap.size (some ⟨wt.heap.size, 0, none⟩) 1 1 [.slice A1 out.length d1, .slice A2 zs.length d2, .int .i64 oo, .slice A3 L.length d3] rfl hr9 HONE.out (by simp only [maxLen]; omega) (by omega) (Nat.zero_le _) ?_; intro v9 w9 hown9 hg9 hat9; obtain ⟨A9, c9, rfl⟩ := own_shape hown9; obtain ⟨hbs, s8, sf8, -, -⟩ := HF.out.share hgl HSO.out H0.out (below_drewN (bone wt (.cells #[.slice A1 out.length d1, .slice A2 zs.length d2, .int .i64 oo, .slice A3 L.length d3] 70)) 1) hg9; obtain ⟨hb0, hb1⟩ := hbs (.slice A9 (SL.length + 1) c9); have q0 := Blk.four (t := 70) hb0; have q1 := Blk.four (t := 70) hb1; obtain ⟨q00, q01, q02, q03, qf0, qf1, qf2, qf3⟩ := q0; obtain ⟨q10, q11, q12, q13, -⟩ := q1; have HO9 := Lib.hid hown9; have HG9 := Lib.hid hg9; have HA9 := Lib.hid hat9; clear hown9 hg9 hat9 hbs hb0 hb1 hA9 hr9)
  all_goals
   go_wp2_with fail
   obtain ⟨wf, hwf⟩ : ∃ wf, ((((w9.setCell ⟨gr, 8, none⟩ (.slice A9 (SL.length + 1) c9)).setCell ⟨w.heap.size, 0, none⟩ (.slice A1 out.length d1)).setCell ⟨w.heap.size, 1, none⟩ (.slice A2 zs.length d2)).setCell ⟨w.heap.size, 2, none⟩ (.int .i64 oo)).setCell ⟨w.heap.size, 3, none⟩ (.slice A3 L.length d3) = wf := ⟨_, rfl⟩
   obtain ⟨hfb, hres⟩ := QFunR.neg HF.out HL.out HLS.out hgl H0.out HP.out ha H5.out HFS.out HSL.out HSO.out HSP.out (below_drewN (bone wt (.cells #[.slice A1 out.length d1, .slice A2 zs.length d2, .int .i64 oo, .slice A3 L.length d3] 70)) 1) HO9.out HG9.out HA9.out hwf
   rw [hwf]
   obtain ⟨k0, k1, k2, k3, -⟩ := Blk.four (t := 70) hfb
   exact bodyPost_ret (v := .agg #[.slice A1 out.length d1, .slice A2 zs.length d2, .int .i64 oo, .slice A3 L.length d3]) (by simp [results, Tryz.results90, go_sem, k0, k1, k2, k3]) rfl hres
 ·have haI : decide (a < 0) = false := decide_eq_false ha
  go_wp2_with fail
  obtain ⟨wf, hwf⟩ : ∃ wf, (((wt.setCell ⟨w.heap.size, 0, none⟩ (.slice A1 out.length d1)).setCell ⟨w.heap.size, 1, none⟩ (.slice A2 zs.length d2)).setCell ⟨w.heap.size, 2, none⟩ (.int .i64 oo)).setCell ⟨w.heap.size, 3, none⟩ (.slice A3 L.length d3) = wf := ⟨_, rfl⟩
  obtain ⟨hfb, hres⟩ := QFunR.late HF.out HL.out HLS.out hgl H0.out HP.out (by omega) HSH.out H5.out hwf
  rw [hwf]
  obtain ⟨k0, k1, k2, k3, -⟩ := Blk.four (t := 70) hfb
  exact bodyPost_ret (v := .agg #[.slice A1 out.length d1, .slice A2 zs.length d2, .int .i64 oo, .slice A3 L.length d3]) (by simp [results, Tryz.results90, go_sem, k0, k1, k2, k3]) rfl hres
end Go.Proofs.YtjpkkkphhaajgaaGreatDoor.wcp
/- The document's next function: its lines. -/
namespace Go.Proofs.YtjpkkkphhaajgaaGreatDoor.wcp
open Go Go.RowKit Go.ChangeShapes Go.WideShapes Go.ChangeAt Go.Maps Go.Proofs.YtjpkkkphhaajgaaGreatDoor.words Go.Proofs.YtjpkkkphhaajgaaGreatDoor.scn
variable {w wc : World} {gr : Nat} {en ee : Int} {sv : Value}
set_option maxRecDepth 1000000 in
set_option maxHeartbeats 8000000 in
theorem qfun_lines {all : List Int} {s s5 : Ps} {a oo nn xn : Int} {vs vz vl : Value} {out zs : List Int} {L : List LT} {lb : Nat} (h : LnQ w wc gr en ee sv vs vz oo vl out zs nn xn s5 lb L 0) (hgl : gr < w.heap.size) (h0 : Qok w gr en ee s sv) (hee : ee ≠ 0)
 (hz1 : ∀ z ∈ zs, 1 ≤ z ∧ z ≤ 4611686018427387904) (hnn : nn ≤ 4611686018427387904) (hzl : zs.length ≤ 1000000)
 (hp : pfun en ee all s = (pallW en ee zs (nn, xn) s5).bind fun ls s => .ok ⟨out, zs, oo, ls⟩ (if a < 0 then { s with sh := s.sh ++ [(zs, ls)] } else s)) (hsh : QSh w sv s.sh) (hshl : s.sh.length ≤ 900000) (h5 : s5.sh = s.sh)
 {k1 k2 k3 k6 k7 k9 k10 k11 k12 k13 k14 k15 k16 k18 k19 k20 k21 k22 k23 k24 k25 k26 k27 k28 k29 k30 k31 k32 k33 k34 k35 k36 k37 k38 k39 k40 k41 k42 k43 k44 k45 k46 k47 k48 k49 k50 k51 k52 k53 k54 k55 k56 k57 k58 k59 k60 k61 k62 k63 k64 k65 k66 k67 k68 k69 k70 k71 k72 k73 k74 k75 k76 k77 k78 k79 k80 k81 k82 k83 k84 k85 k86 k87 k88 k89 k90 k91 k92 k93 k94 k95 k96 k97 k98 k99 k100 k101 k102 k103 k104 k105 k106 k107 k108 k109 k110 k111 k112 k113 k114 k115 k116 k117 k118 k119 k120 k121 k122 k123 k124 k125 k126 k127 k128 k129 k130 k131 k132 k133 k134 k135 k136 k137 k138 k139 k140 k141 k142 k143 k144 k145 k146 k147 k148 k149 k150 k151 k152 k153 k154 k155 k156 k157 k158 k159 k160 k161 k162 k163 k164 k165 k166 k167 k168 k169 k170 k171 k172 k173 k174 k175 k176 k177 k178 k179 k180 k181 k182 k183 k184 k185 k186 k187 k188 k189 k190 k191 k192 k193 k194 k195 k196 k197 k198 k199 k200 k201 k202 k203 k204 k205 k206 k207 k208 k209 k210 k211 k212 k213 k214 k215 k216 k217 k218 k219 k220 k221 k222 k223 k224 k225 k226 k227 k228 k229 k230 k231 k232 k233 k234 k235 k236 k237 k238 k239 k240 k241 k242 k243 k244 k245 k246 k247 k248 k249 k250 k251 k252 k253 k254 k255 k256 k257 k258 k259 k260 k261 k262 k263 k264 k265 k266 k267 k268 k269 k270 k271 k272 k273 k274 k275 k276 k277 k278 k279 k280 : Value} :
 Code.wp Tryz.prog (sfx 13 qbody) (bodyPost Tryz.prog Tryz.f90 fun e w' => QFunR w gr en ee all s sv e w') ⟨#[.pointer (some ⟨gr, 0, none⟩), k1, k2, k3, .pointer (some ⟨w.heap.size, 0, none⟩), .pointer (some ⟨w.heap.size + 1, 0, none⟩), k6, k7, .bool (decide (a < 0)), k9, k10, k11, k12, k13, k14, k15, k16, .int .i64 nn, k18, k19, k20, k21, k22, k23, k24, k25, k26, k27, k28, k29, k30, k31, k32, k33, k34, k35, k36, k37, k38, k39, k40, k41, k42, k43, k44, k45, k46, k47, k48, k49, k50, k51, k52, k53, k54, k55, k56, k57, k58, k59, k60, k61, k62, k63, k64, k65, k66, k67, k68, k69, k70, k71, k72, k73, k74, k75, k76, k77, k78, k79, k80, k81, k82, k83, k84, k85, k86, k87, k88, k89, k90, k91, k92, k93, k94, k95, k96, k97, k98, k99, k100, k101, k102, k103, k104, k105, k106, k107, k108, k109, k110, k111, k112, k113, k114, k115, k116, k117, k118, k119, k120, k121, k122, k123, k124, k125, k126, k127, k128, k129, k130, k131, k132, k133, k134, k135, k136, k137, k138, k139, k140, k141, k142, k143, k144, k145, k146, k147, k148, k149, k150, k151, k152, k153, k154, k155, k156, k157, k158, k159, k160, k161, k162, k163, k164, k165, k166, k167, k168, k169, k170, k171, k172, k173, k174, k175, k176, k177, k178, k179, k180, k181, k182, k183, k184, k185, k186, k187, k188, k189, k190, k191, k192, k193, k194, k195, k196, k197, k198, k199, k200, k201, k202, k203, k204, k205, k206, k207, k208, k209, k210, k211, k212, k213, k214, k215, k216, k217, k218, k219, k220, k221, k222, k223, k224, k225, k226, k227, k228, k229, k230, k231, k232, k233, k234, k235, k236, k237, k238, k239, k240, k241, k242, k243, k244, k245, k246, k247, k248, k249, k250, k251, k252, k253, k254, k255, k256, k257, k258, k259, k260, k261, k262, k263, k264, k265, k266, k267, k268, k269, k270, k271, k272, k273, k274, k275, k276, k277, k278, k279, k280], []⟩ wc := by
 conv => arg 2; whnf
 obtain ⟨iL, hL0, hL1, hL2, hL3⟩ := info_parts infoQL
 obtain ⟨i6, h60, h61, h62, h63⟩ := info_parts info64
 obtain ⟨SA0, SC0, rfl⟩ := h.f2.sc.1
 obtain ⟨FA, FC, rfl⟩ := h.f2.sz.1
 obtain ⟨LA0, LC0, rfl⟩ := h.ln.1
 have HLN := Lib.hid h
 have H0 := Lib.hid h0
 have HP := Lib.hid hp
 have HSH := Lib.hid hsh
 have H5 := Lib.hid h5
 have HZ1 := Lib.hid hz1
 have HLZ := Lib.hid (nums_own_len h.f2.sz.2)
 have HZM := Lib.hid (own_max h.f2.sz.2)
 clear h h0 hp hsh h5 hz1
 go_wp2_with fail
 go_loopw [18] (fun iv wt => ∃ (i : Nat) (LA : Option Addr) (LC : Nat) (L : List LT) (lb : Nat), iv = .int .i64 i ∧ Hid (LnQ w wt gr en ee sv (.slice SA0 out.length SC0) (.slice FA zs.length FC) oo (.slice LA L.length LC) out zs nn xn s5 lb L i)) (fun iv _ => (nn - intOf iv).toNat)
 case atStart => exact ⟨0, LA0, LC0, L, lb, rfl, HLN⟩
 case round =>
  clear HLN
  obtain ⟨i, LA, LC, L, lb, rfl, hln⟩ := hrel
  by_cases hlt : (i : Int) < nn
  ·have hltI : decide ((i : Int) < nn) = true := decide_eq_true hlt
   by_cases hgd : (rln en ee zs nn xn s5 i).good = true
   ·obtain ⟨wl, hwl⟩ : ∃ wl, wl = wr := ⟨_, rfl⟩
    subst hwl
    obtain ⟨ls2, s4, hrl⟩ := good_ok hgd
    have hnn0 : 0 ≤ nn := by omega
    obtain rfl : lb = w.heap.size + 2 := hln.out.lb hnn0
    have hsz := hln.out.f2.size
    have hgt : gr < wl.heap.size := by omega
    have HRL := Lib.hid hrl
    have X0 := LnX.start (qok_of (b := ([] : List Int)) hln.out.f2.qs hrl)
    obtain ⟨lv, bad_, badAt, big, bigAt, told, hqb, hb0, -⟩ := (qok_of (b := ()) hln.out.f2.qs hrl).blk
    obtain rfl : bad_ = 0 := by simpa [Res.good] using hb0
    have c3 := (QB.cells hqb).2.2.2.1
    obtain ⟨wx, hwx⟩ : ∃ wx, wl.alloc (.cells #[.slice none 0 0, .int .i64 0] 137) = wx := ⟨_, rfl⟩
    rw [hwx] at X0
    obtain ⟨y0, y1, y2, y3, -⟩ := Blk.four (t := 70) (hln.out.f2.tch hgl X0.tc X0.qs).fb
    have HX0 : Hid (LnX wl wx gr en ee sv [] none 0 0 (ptup en ee (zs.take 0) [] s4)) := X0
    have HLN := hln
    clear hqb hb0 hgd hrl X0 hln
    go_wp2_with fail
    go_loopw [215] (fun jv wq => ∃ (j : Nat) (tt : List Int) (At : Option Addr) (ct : Nat), jv = .int .i64 j ∧ tt.length = j ∧ j ≤ zs.length ∧ Hid (LnX wl wq gr en ee sv tt At ct 0 (ptup en ee (zs.take j) [] s4)) ∧ Hid (∀ t' s', ptup en ee (zs.take j) [] s4 = .ok t' s' → t' = tt)) (fun jv _ => zs.length - (intOf jv).toNat)
    case atStart => exact ⟨0, [], none, 0, rfl, rfl, Nat.zero_le _, HX0, fun t' s' h => by injection h with h _; exact h.symm⟩
    case round =>
     clear HX0 c3 hwx y0 y1 y2 y3
     obtain ⟨j, tt, At, ct, rfl, htl, hjz, hX, hTQ⟩ := hrel
     by_cases hjl : j < zs.length
     ·subst htl
      have hF := HLN.out.f2.tch hgl hX.out.tc hX.out.qs
      obtain ⟨ad, y, hA1, -, hy, hc⟩ := (Reads.of_own hF.sz.2).num hjl
      subst hA1
      have hjI : decide ((tt.length : Int) < (zs.length : Int)) = true := decide_eq_true (by omega)
      have hy1 := HZ1.out y (List.mem_of_getElem? hy)
      have hn5 := qnum_un hX.out.qs hee 0 (y - 1)
      have HY := Lib.hid hy
      clear hF hy
      go_wp2_with fail
      refine hn5.mono ?_
      rintro e w5 ⟨v, xv, rfl, t5, hs5, hv5, hz5⟩
      have hX5 := hX.out.tch hgt t5 hs5
      obtain ⟨x0, x1⟩ := Blk.two hX5.xb
      have hA6 := hX5.row.alloc (.cells #[.int .i64 v] 2)
      have hr6 : Reads (w5.alloc (.cells #[.int .i64 v] 2)) (w5.alloc (.cells #[.int .i64 v] 2)).heap.size 1 (some ⟨w5.heap.size, 0, none⟩) 1 (nums [v]) := reads_block (t := 2) (heap_alloc_new _ _) rfl
      have hs6 : wl.heap.size + 1 ≤ (w5.alloc (.cells #[.int .i64 v] 2)).heap.size := by have := hX5.xb.lt; simp; omega
      have HV5 := Lib.hid hv5
      have HX5 := Lib.hid hX5
      clear hn5 hc t5 hs5 hv5 hz5 hX5
      go_wp2_with (first
       | (at_builtin; refine wpList_append_any _ rfl (.tmp 227) (.tmp 229) _ rfl (wl.heap.size + 1) 2 i6 _ 1 8 Tryz.underlying46 h60 h61 h62 h63 rfl (by omega) (.slice At tt.length ct) tt.length _ rfl hA6 (w5.alloc (.cells #[.int .i64 v] 2)).heap.size (some ⟨w5.heap.size, 0, none⟩) 1 1 (nums [v]) rfl hr6 nums_one (by simp only [maxLen]; omega) (by omega) hs6 ?_; intro v6 w6 hown6 hg6 hat6; obtain ⟨A6, c6, rfl⟩ := own_shape hown6; have hm6 := HX5.out.mid (bone w5 (.cells #[.int .i64 v] 2)) hg6 (fun q hq => (own_in HX5.out.row hq).1); obtain ⟨d60, d61⟩ := Blk.two hm6; have d6f := hm6.frozen 0; have HX7 := Lib.hid (HX5.out.app hgt (bone w5 (.cells #[.int .i64 v] 2)) hown6 hg6); clear hown6 hg6 hat6 hm6 hA6 hr6 x0 x1)
       | fail)
      go_roundw
      case measure => simp [intOf]; omega
      case rel => exact ⟨tt.length + 1, tt ++ [v], A6, c6, by go_num, by simp, hjl, HX7.out.re (tup_qs HY.out HX7.out.qs), tup_val HY.out hTQ.out HV5.out⟩
     ·obtain rfl : j = zs.length := by omega
      have HTL := Lib.hid htl
      clear htl
      have hjI : decide ((zs.length : Int) < (zs.length : Int)) = false := decide_eq_false (by omega)
      rw [List.take_of_length_le (Nat.le_refl _)] at hX hTQ
      have hn5 := qnum_un hX.out.qs hee 0 4611686018427387904
      go_wp2_with fail
      refine hn5.mono ?_
      rintro e w5 ⟨cv, xc, rfl, t5, hs5, hv5, hz5⟩
      have hX5 := hX.out.tch hgt t5 hs5
      have hX6 := LnX.re hX5 (pdup_nil (tt := tt) (xc := xc) hX5.qs)
      obtain ⟨y0, y1, y2, y3, -⟩ := Blk.four (t := 70) (HLN.out.f2.tch hgl hX5.tc hX5.qs).fb
      have HX6 : Hid (LnX wl w5 gr en ee sv tt At ct 0 (pdup tt xc ((L.map (·.2.1)).take 0) ((ptup en ee zs [] s4).bind fun _ s => pnum en ee 0 far s))) := hX6
      have HV5 := Lib.hid hv5
      have hcr := NumU.range hv5 hz5 (by omega) (by omega)
      have HTQ := hTQ
      clear hn5 t5 hs5 hv5 hz5 hX5 hX6 hX hTQ
      go_wp2_with fail
      go_loopw [241] (fun jv wq => ∃ m : Nat, jv = .int .i64 m ∧ m ≤ L.length ∧ Hid (LnX wl wq gr en ee sv tt At ct 0 (pdup tt xc ((L.map (·.2.1)).take m) ((ptup en ee zs [] s4).bind fun _ s => pnum en ee 0 far s)))) (fun jv _ => L.length - (intOf jv).toNat)
      case atStart => exact ⟨0, rfl, Nat.zero_le _, HX6⟩
      case round =>
       clear HX6 y0 y1 y2 y3
       obtain ⟨m, rfl, hml, hXm⟩ := hrel
       have hLl : L.length ≤ 1000001 := by have h1 := HLN.out.len hnn0; have h2 := HLN.out.lim hnn0; omega
       by_cases hmL : m < L.length
       ·obtain ⟨pp, hpp⟩ : ∃ pp, L[m]? = some pp := ⟨_, List.getElem?_eq_getElem hmL⟩
        have R := HLN.out.ln.tch hXm.out.tc (HLN.out.f2.qs.off (by decide)) (HLN.out.f2.qs.off (by decide))
        obtain ⟨q4, rfl, -, -⟩ := own_some R.2.1 (by omega)
        obtain ⟨⟨tA, tC, htv⟩, hro⟩ := R.2.2 pp (List.mem_of_getElem? hpp)
        obtain ⟨tv, tu, tk⟩ := pp
        dsimp only at htv hro
        subst htv
        obtain ⟨e1, e2⟩ := qlc_at hpp
        have c40 := (R.2.1.cellAt (m * 2) (by omega)).trans e1
        have c41 := (R.2.1.cellAt (m * 2 + 1) (by omega)).trans e2
        have mI : decide ((m : Int) < (L.length : Int)) = true := decide_eq_true (by omega)
        have i0 : (0 : Int) ≤ (m : Int) := Int.natCast_nonneg _
        have i1 : (m : Int) < (L.length : Int) := by omega
        obtain ⟨wy, hwy⟩ : ∃ wy, wr.alloc (.cells #[.slice tA tu.length tC, .int .i64 tk] 137) = wy := ⟨_, rfl⟩
        have hby := bone wr (.cells #[.slice tA tu.length tC, .int .i64 tk] 137)
        have hyb : Blk (wr.alloc (.cells #[.slice tA tu.length tC, .int .i64 tk] 137)) wr.heap.size 137 #[.slice tA tu.length tC, .int .i64 tk] := Blk.new _ _ _
        rw [hwy] at hby hyb
        have hXy := hXm.out.tch hgt (Tch.of_below hby _) (hXm.out.qs.below hby)
        have hro' := own_under hro hby
        obtain ⟨x0, x1⟩ := Blk.two hXy.xb
        obtain ⟨z0, z1⟩ := Blk.two hyb
        have hpu : (L.map (·.2.1))[m]? = some tu := by rw [List.getElem?_map, hpp]; rfl
        have hnx := pdup_next (tt := tt) (xc := xc) (r := ((ptup en ee zs [] s4).bind fun _ s => pnum en ee 0 far s)) hpu
        have HNX := Lib.hid hnx
        obtain ⟨RM, hRM⟩ : ∃ RM, pdup tt xc ((L.map (·.2.1)).take m) ((ptup en ee zs [] s4).bind fun _ s => pnum en ee 0 far s) = RM := ⟨_, rfl⟩
        obtain ⟨RN, hRN⟩ : ∃ RN, pdup tt xc ((L.map (·.2.1)).take (m + 1)) ((ptup en ee zs [] s4).bind fun _ s => pnum en ee 0 far s) = RN := ⟨_, rfl⟩
        rw [hRM] at hXy
        rw [hRM, hRN] at HNX
        have HRN := Lib.hid hRN
        have HXY := Lib.hid hXy
        have hsm := same_ref At tA tt.length tu.length ct tC tt tu wy (own_max hXy.row) (own_max hro') (Reads.of_own hXy.row) (Reads.of_own hro')
        obtain ⟨lv, bad_, badAt, big, bigAt, told, hqb, hb0, -⟩ := hXy.qs.blk
        have d3 := (QB.cells hqb).2.2.2.1
        clear hqb hXy hro' hro hyb hpu hnx hRM hRN e1 e2 hpp R hby hXm
        cases RM with
        | bad er x =>
          have hbe : (bad_ == 0) = false := by
           have : ¬ bad_ = 0 := of_decide_eq_false (by rw [hb0]; rfl)
           simp [this]
          clear hsm hb0
          go_wp2_with fail
          go_roundw
          case measure => simp [intOf]; omega
          case rel => exact ⟨m + 1, by go_num, hmL, by rw [HRN.out, HNX.out.1 _ _ rfl]; exact HXY.out⟩
        | ok u0 s6 =>
          obtain rfl : bad_ = 0 := by simpa [Res.good] using hb0
          clear hb0
          go_wp2_with fail
          refine hsm.mono ?_
          rintro e w7 ⟨rfl, hb7⟩
          have HX7 := Lib.hid (HXY.out.tch hgt (Tch.of_below hb7 _) (HXY.out.qs.below hb7))
          clear hsm hb7 d3 x0 x1 z0 z1 c40 c41
          by_cases hE : tt = tu
          ·have hEb : eqB tt tu = true := decide_eq_true hE
           have hwr := qwrong_un (a := ()) (show Qok w7 gr en ee s6 sv from HX7.out.qs) 4 xc (by decide)
           have HE := Lib.hid hE
           clear hE
           go_wp2_with fail
           refine hwr.mono ?_
           rintro e w8 ⟨⟨u, rfl⟩, hq8, t8⟩
           have HX8 := Lib.hid (HX7.out.tch hgt t8 (show QS w8 gr en ee sv (.bad 4 xc : Res Unit) from hq8))
           clear hwr hq8 t8
           go_wp2_with fail
           go_roundw
           case measure => simp [intOf]; omega
           case rel => exact ⟨m + 1, by go_num, hmL, by rw [HRN.out, HNX.out.2 _ _ rfl, if_pos HE.out]; exact HX8.out⟩
          ·have hEb : eqB tt tu = false := decide_eq_false hE
           have HE := Lib.hid hE
           clear hE
           go_wp2_with fail
           go_roundw
           case measure => simp [intOf]; omega
           case rel => exact ⟨m + 1, by go_num, hmL, by rw [HRN.out, HNX.out.2 _ _ rfl, if_neg HE.out]; exact HX7.out⟩
       ·obtain rfl : m = L.length := by omega
        have mI : decide ((L.length : Int) < (L.length : Int)) = false := decide_eq_false (by omega)
        rw [List.take_of_length_le (by simp)] at hXm
        obtain ⟨wp, hwp⟩ : ∃ wp, wr.setCell ⟨wl.heap.size, 1, none⟩ (.int .i64 cv) = wp := ⟨_, rfl⟩
        have x1f := hXm.out.xb.frozen 1
        obtain ⟨x0, x1⟩ := Blk.two hXm.out.xb
        have hXp := hXm.out.put hgt cv
        rw [hwp] at hXp
        have hF := HLN.out.f2.tch hgl hXp.tc hXp.qs
        have R := HLN.out.ln.tch hXp.tc (HLN.out.f2.qs.off (by decide)) (HLN.out.f2.qs.off (by decide))
        obtain ⟨y0, y1, y2, y3, -⟩ := Blk.four (t := 70) hF.fb
        obtain ⟨p0, p1⟩ := Blk.two hXp.xb
        have hA6 := R.2.1.alloc (.cells #[.slice At tt.length ct, .int .i64 cv] 137)
        have hr6 : Reads (wp.alloc (.cells #[.slice At tt.length ct, .int .i64 cv] 137)) (wp.alloc (.cells #[.slice At tt.length ct, .int .i64 cv] 137)).heap.size 2 (some ⟨wp.heap.size, 0, none⟩) 1 [.slice At tt.length ct, .int .i64 cv] := reads_two (t := 137) (heap_alloc_new _ _)
        have hone : ∀ u ∈ [Value.slice At tt.length ct, .int .i64 cv], u.oneCell' = true := fun u hu => by
         simp only [List.mem_cons, List.not_mem_nil, or_false] at hu
         rcases hu with rfl | rfl <;> rfl
        have hs6 : w.heap.size + 2 ≤ (wp.alloc (.cells #[.slice At tt.length ct, .int .i64 cv] 137)).heap.size := by have := hF.size; simp; omega
        have HONE := Lib.hid hone
        have HXP := Lib.hid hXp
        have HF := Lib.hid hF
        have HR := Lib.hid R
        clear hone hXp hF R hXm
        go_wp2_with (first
         | (at_builtin; refine wpList_append_any _ rfl (.tmp 264) (.tmp 266) _ rfl (w.heap.size + 2) 137 iL _ 2 32 Tryz.underlying68 hL0 hL1 hL2 hL3 rfl (by omega) (.slice LA L.length LC) L.length _ rfl hA6 (wp.alloc (.cells #[.slice At tt.length ct, .int .i64 cv] 137)).heap.size (some ⟨wp.heap.size, 0, none⟩) 1 1 [.slice At tt.length ct, .int .i64 cv] rfl hr6 HONE.out (by simp only [maxLen]; omega) (by omega) hs6 ?_; intro v6 w6 hown6 hg6 hat6; obtain ⟨A6, c6, rfl⟩ := own_shape hown6; have hm6 := HF.out.mid (bone wp (.cells #[.slice At tt.length ct, .int .i64 cv] 137)) hg6 (fun q hq => (own_in HR.out.2.1 hq).1); have d63 := (Blk.four (t := 70) hm6).2.2.2.1; have d6f := hm6.frozen 3; have HQ := Lib.hid (LnQ.next HLN.out hgl hnn0 hlt HRL.out HTQ.out HV5.out HXP.out (bone wp (.cells #[.slice At tt.length ct, .int .i64 cv] 137)) hown6 hg6); clear hown6 hg6 hat6 hm6 hA6 hr6 x0 x1 y0 y1 y2 y3 p0 p1 x1f hwp)
         | fail)
        go_roundw
        case measure => simp [intOf]; omega
        case rel =>
         have hl : (L ++ [((Value.slice At tt.length ct, tt, cv) : LT)]).length = L.length + 1 := by simp
         exact ⟨i + 1, A6, c6, L ++ [(.slice At tt.length ct, tt, cv)], w.heap.size + 2, by go_num, by rw [hl]; exact HQ.out⟩
   ·have HBD := Lib.hid (bad_of hgd)
    have HD := Lib.hid (LnQ.done hln.out (.inr (.inr HBD.out)))
    obtain ⟨lv, bad_, badAt, big, bigAt, told, hqb, hb0, -⟩ := hln.out.f2.qs.blk
    have hbe : (bad_ == 0) = false := by
     have : ¬ bad_ = 0 := fun h => hgd (by rw [← hb0]; exact decide_eq_true h)
     simp [this]
    have c3 := (QB.cells hqb).2.2.2.1
    clear hqb hb0 hgd
    go_upto_if 209 with fail
    repeat (first | (exact qfun_end HD.out.1 HD.out.2.1 HD.out.2.2 hgl H0.out HP.out HSH.out hshl H5.out) | go_step)
  ·have hltI : decide ((i : Int) < nn) = false := decide_eq_false hlt
   have HD : Hid _ := Lib.hid (LnQ.done hln.out (by
    by_cases h : nn < 0
    ·exact .inl h
    ·have := hln.out.le (by omega)
     exact .inr (.inl (by omega))))
   go_upto_if 209 with fail
   repeat (first | (exact qfun_end HD.out.1 HD.out.2.1 HD.out.2.2 hgl H0.out HP.out HSH.out hshl H5.out) | go_step)
end Go.Proofs.YtjpkkkphhaajgaaGreatDoor.wcp

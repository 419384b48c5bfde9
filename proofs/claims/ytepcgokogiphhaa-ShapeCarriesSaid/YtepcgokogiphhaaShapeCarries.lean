/- For every input ShapeCarries returns true; its arguments read as before. No condition. -/
import Derived.Test.YtepcgokogiphhaaRows
import Derived.WalkKit
import Derived.ProofKit
import Derived.OpenShut
import Derived.Test.YtepcgokogiphhaaShapeAll
import Derived.Test.YtepcgokogiphhaaShapeCarry
import Derived.Test.YtepcgokogiphhaaShapeEq
import Derived.Test.YtepcgokogiphhaaStillIn
import Derived.Deep.DeepCutAuto
import Derived.Deep.RegionHeld3
import Derived.ShutString
import Derived.ChangeOld
import Derived.Below
namespace Go.Proofs.Ytepcgokogiphhaa.shapeCarries
open Go.Proofs.Ytepcgokogiphhaa.shp Go.Proofs.Ytepcgokogiphhaa.told Go.Proofs.Ytepcgokogiphhaa.words Go.Shelf
open Go.ChangeShapes Go.WideShapes Go.ChangeAt Go.RowKit
open Go.ChangeMaps (open_string shut_string)
set_option linter.unusedVariables false

theorem own : ownKnob Try.prog.godebug = none := by kernel_rfl
theorem laidOut : laidOutB Try.prog = true := by kernel_rfl

def IsRow (k : IntKind) (w : World) (a : Option Addr) (len cap : Nat) (zs : List Int) : Prop :=
  (a = none ∧ len = 0 ∧ cap = 0 ∧ zs = []) ∨
  ∃ x, a = some x ∧ len ≤ cap ∧ cap ≤ maxLen ∧ zs.length = cap ∧ (∀ i, i < zs.length → w.cell? (x.add i) = some (.int k (zs.getD i 0))) ∧ ∀ n ∈ zs, (Lit.int k n).wf = true

theorem row_reads {k : IntKind} {w : World} {a : Option Addr} {len cap : Nat} {zs : List Int} (h : IsRow k w a len cap zs) :
    Reads w w.heap.size 1 a len ((zs.take len).map (Value.int k)) ∧ len ≤ 9223372036854775807 ∧ len ≤ cap ∧ ∀ x ∈ zs.take len, (Lit.int k x).wf = true := by
  rcases h with ⟨rfl, rfl, rfl, rfl⟩ | ⟨x, rfl, hl, hm, hz, hcell, hwz⟩
  · exact ⟨by simpa using (Reads.none_ (w := w) (B := w.heap.size) (size := 1) (A := none)), by omega, by omega, by simp⟩
  · refine ⟨⟨by simp; omega, fun h0 => ⟨x, rfl, ?_, fun j u hu => ?_⟩⟩, by unfold maxLen at hm; omega, hl, fun x hx => hwz x (List.mem_of_mem_take hx)⟩
    · have := World.block_lt_of_cell? w _ (hcell 0 (by omega))
      rw [block_of_add] at this; exact this
    · rw [List.getElem?_map, List.getElem?_take] at hu
      split at hu
      · cases hy : zs[j]? with
        | none => rw [hy] at hu; simp at hu
        | some y =>
          rw [hy] at hu
          simp at hu
          subst hu
          have hl := (List.getElem?_eq_some_iff.1 hy).1
          rw [hcell j hl]; simp [hy]
      · simp at hu
open Go
attribute [local go_sem] Oper.semAt_some
theorem res_cell {w wf : World} {D g : Nat} {v : Value} (hg : Blk wf g 4 #[v]) (hD : D ≠ g) (hB : Below w.heap.size w wf) (hwD : w.heap.size ≤ D) (tmps : Array Value) (ht : tmps.getD 2 undef = .pointer (some ⟨g, 0, none⟩)) :
    (results Try.f6 tmps).run Try.prog (wf.putObj D (.deferred none)) = .ok v (wf.putObj D (.deferred none)) ∧ Below w.heap.size w (wf.putObj D (.deferred none)) := by
  have hgr := grownBy_putObj' wf D (.deferred none)
  have hc : (wf.putObj D (.deferred none)).cell? ⟨g, 0, none⟩ = some v := (World.cell?_of_block (a := ⟨g, 0, none⟩) (hgr.block g hg.lt (fun e => hD (by injection e with e; exact e.symm)))).trans (hg.cell 0)
  have ht' : tmps[2]?.getD undef = .pointer (some ⟨g, 0, none⟩) := by simpa using ht
  have hr : Try.f6.results = #[.cell 2 4] := rfl
  refine ⟨?_, hB.grown hgr hB.size (fun k e => by injection e with e; omega)⟩
  simp [results, hr, ht', asAddr, loadVar, isAgg, run_underlying (show Try.prog.underlying 4 = some .bool from Try.underlying4), hc]
theorem own_kept {W W' : World} {base : Nat} {e : TypeId} {size : Nat} {v : Value} {n : Nat} {xs : List Value} {row : Option Nat} (h : W.ownsRow base e size v n xs) (hg : W.grownBy W' row) (hr : ∀ r, row = some r → ∃ o : Obj, W.heap[r]? = some o ∧ o.isCells = false) : W'.ownsRow base e size v n xs := by
  refine h.kept hg ?_
  rcases h.2 with ⟨rfl, _⟩ | ⟨g, cap, cur, rfl, _, hgb, _⟩
  · exact .inl rfl
  · refine .inr fun e' => ?_
    obtain ⟨o, ho, hc⟩ := hr g (by simpa [Value.ownBlock] using e'.symm)
    rw [hgb] at ho; cases ho; cases hc
theorem blk_kept {W W' : World} {g : Nat} {t : TypeId} {cs : Array Value} {row : Option Nat} (h : Blk W g t cs) (hg : W.grownBy W' row) (hr : ∀ r, row = some r → ∃ o : Obj, W.heap[r]? = some o ∧ o.isCells = false) : Blk W' g t cs :=
  h.grown hg fun e => by
    obtain ⟨o, ho, hc⟩ := hr g e.symm
    rw [show W.heap[g]? = _ from h] at ho; cases ho; cases hc
theorem own_far {W : World} {base : Nat} {e : TypeId} {size : Nat} {v : Value} {n : Nat} {xs : List Value} {g : Nat} (h : W.ownsRow base e size v n xs) (hg : v.ownBlock ≠ some g) (u : Value) : (W.setCell ⟨g, 0, none⟩ u).ownsRow base e size v n xs :=
  h.kept (grownBy_setCell' W g u) (.inr hg)
theorem keeps_row {W W' : World} {base B : Nat} {e : TypeId} {n c r : Nat} {xs : List Value} (h : W.ownsRow base e 1 (.slice (some ⟨r, 0, none⟩) n c) n xs) (ht : Tch W W' (fun b => b = r)) : KeepsFrom B W W' :=
  ⟨ht.size, fun k o _ hk ho => by
    refine (ht.block k (Array.getElem?_eq_some_iff.1 hk).1 fun e => ?_).trans hk
    subst e
    rcases h.2 with ⟨h', _⟩ | ⟨g, cap, cur, h', _, hg, _⟩
    · cases h'
    · injection h' with h' _ _
      injection h' with h'
      injection h' with h' _ _
      subst h'
      rw [hg] at hk
      cases hk
      cases ho⟩
def LstI (xs : List Int) (m n₀ g6 k : Nat) (W : World) : Prop := ∃ Al nl cl, Blk W g6 25 #[.slice Al nl cl] ∧ (0 < k → nl = m ∧ W.ownsRow n₀ 3 1 (.slice Al m cl) m (nums (tupI xs ((k - 1 : Nat) : Int))))
def LstZ (xs : List Int) (m n₀ g6 k q : Nat) (W : World) : Prop := ∃ Al nl cl, Blk W g6 25 #[.slice Al nl cl] ∧ (0 < k → nl = m ∧ W.ownsRow n₀ 3 1 (.slice Al m cl) m (nums (tupI xs ((k - 1 : Nat) : Int))) ∧ ∀ b, (Value.slice Al m cl).ownBlock = some b → b ≠ q)
theorem LstI.kept {xs : List Int} {m n₀ g6 k : Nat} {W W' : World} {row : Option Nat} (h : LstI xs m n₀ g6 k W) (hg : W.grownBy W' row) (hr : ∀ r, row = some r → ∃ o : Obj, W.heap[r]? = some o ∧ o.isCells = false) : LstI xs m n₀ g6 k W' := by
  obtain ⟨Al, nl, cl, h1, h2⟩ := h
  exact ⟨Al, nl, cl, blk_kept h1 hg hr, fun hk => ⟨(h2 hk).1, own_kept (h2 hk).2 hg hr⟩⟩
theorem LstZ.kept {xs : List Int} {m n₀ g6 k q : Nat} {W W' : World} {row : Option Nat} (h : LstZ xs m n₀ g6 k q W) (hg : W.grownBy W' row) (hr : ∀ r, row = some r → ∃ o : Obj, W.heap[r]? = some o ∧ o.isCells = false) : LstZ xs m n₀ g6 k q W' := by
  obtain ⟨Al, nl, cl, h1, h2⟩ := h
  exact ⟨Al, nl, cl, blk_kept h1 hg hr, fun hk => ⟨(h2 hk).1, own_kept (h2 hk).2.1 hg hr, (h2 hk).2.2⟩⟩
theorem LstI.next {xs : List Int} {m n₀ g6 k q : Nat} {W W' : World} (h : LstI xs m n₀ g6 k W) (hb : Below W.heap.size W W') (hq : W.heap.size ≤ q) : LstZ xs m n₀ g6 k q W' := by
  obtain ⟨Al, nl, cl, h1, h2⟩ := h
  exact ⟨Al, nl, cl, h1.under hb, fun hk => ⟨(h2 hk).1, own_under (h2 hk).2 hb, fun b hbk e => by have := (own_in (h2 hk).2 hbk).2; omega⟩⟩
set_option maxRecDepth 100000 in
set_option maxHeartbeats 4000000 in
theorem core (A : Option Addr) (n cap : Nat) (l : List Int) (w : World) (hn : n ≤ 9223372036854775807) (hr : Reads w w.heap.size 1 A n (bytes8 l)) (h8 : ∀ x ∈ l, 0 ≤ x ∧ x < 256) :
    Calls Try.prog 6 #[.slice A n cap] w fun e w' => e = .returned (.bool true) ∧ Below w.heap.size w w' := by
  obtain ⟨hsz, hl3, h14⟩ := small_szs l
  obtain ⟨xs, hxs⟩ : ∃ xs, xs = smallI l := ⟨_, rfl⟩
  have hsm := fun wx hx => small_any A n cap l wx hn hx h8
  rw [← hxs] at hsm hsz hl3 h14
  have hpr := (szs_small hl3 h14).2
  have hP := szs_prod hsz
  obtain ⟨P, hPe⟩ : ∃ P : Nat, prodI xs = P := ⟨(prodI xs).toNat, by omega⟩
  rw [hPe] at hP hpr
  have HPE := Lib.hid hPe
  obtain ⟨m, hm⟩ : ∃ m, xs.length = m := ⟨_, rfl⟩
  have HM := Lib.hid hm
  rw [hm] at hl3
  clear hxs hPe hm
  refine (callsIn_wide (n := 4)).1 ?_
  refine callsIn_of_wp_marks Try.func6 rfl trivial ?_ rfl
  simp only [Try.ntmps6, List.size_toArray, List.length_cons, List.length_nil, Nat.reduceAdd, Nat.reduceSub, Array.replicate_succ, Array.replicate_zero, List.push_toArray, List.append_toArray, List.nil_append, List.cons_append]
  refine wpIn_wide.2 ?_
  refine Code.wp_mono NoPanic.imp ?_
  have hB1 := bone w (.cells #[.bool false] 4)
  have hq1 := Blk.new w 4 #[.bool false]
  go_wp2_with fail
  refine (awake_any (w.alloc (.cells #[.bool false] 4))).mono ?_
  obtain ⟨g2, hg2⟩ : ∃ g, w.heap.size = g := ⟨_, rfl⟩
  obtain ⟨wa, hwa⟩ : ∃ wa, w.alloc (.cells #[.bool false] 4) = wa := ⟨_, rfl⟩
  have hg2w : w.heap.size ≤ g2 := by omega
  rw [hwa, hg2] at hq1
  rw [hwa] at hB1 ⊢
  rw [hg2]
  have HG2 := Lib.hid hg2
  clear hwa hg2
  rintro e w1 ⟨rfl, hb1⟩
  have hB1 := bto hB1 hb1
  have hq1 := hq1.under hb1
  have hr1 := hr.lift hB1
  clear hb1 hr
  go_wp2_with fail
  refine (hsm w1 hr1).mono ?_
  rintro e w2 ⟨As, cs, rfl, hown2, hb2⟩
  rw [HM.out] at hown2 ⊢
  have hB2 := bnew (bto hB1 hb2) (.cells #[.slice As m cs] 25)
  have hq2 := (hq1.under hb2).under (bone w2 (.cells #[.slice As m cs] 25))
  have hs2 := Blk.new w2 25 #[.slice As m cs]
  have hown2 := own_under hown2 (bone w2 (.cells #[.slice As m cs] 25))
  obtain ⟨s0, s1⟩ := hs2.one
  clear hsm hr1 hB1 hq1 hb2
  go_wp2_with fail
  have hrs2 := Reads.of_own hown2
  refine (new_yes As m cs xs _ (by omega) hrs2 hsz (by rw [HPE.out]; omega)).mono ?_
  obtain ⟨g3, hg3⟩ : ∃ g, w2.heap.size = g := ⟨_, rfl⟩
  obtain ⟨w3, hw3⟩ : ∃ wa, w2.alloc (.cells #[.slice As m cs] 25) = wa := ⟨_, rfl⟩
  rw [hw3] at hB2 hq2 hs2 hown2 hrs2 ⊢
  rw [hg3] at hs2 ⊢
  clear hw3 hg3 s0 s1
  rintro e w4 ⟨A1, c1, rfl, hown4, hc1, hb4⟩
  have hB4 := bto hB2 hb4
  have hq4 := hq2.under hb4
  have hs4 := hs2.under hb4
  have hrs4 := hrs2.lift hb4
  have hrn4 := Reads.of_own hown4
  clear hB2 hq2 hs2 hown2 hrs2 hb4 hown4
  go_wp2_with fail
  refine (all_any A1 m c1 _).mono ?_
  rintro e w5 ⟨rfl, hw5⟩
  obtain ⟨g4, hg4⟩ : ∃ g, w4.heap.size = g := ⟨_, rfl⟩
  have hc4 := Blk.new w4 28 #[.slice A1 m c1]
  have hB5 := bnew (bnew (bnew hB4 (.cells #[.slice A1 m c1] 28)) (.cells #[.slice none 0 0] 25)) (.cells #[.slice A1 m c1] 28)
  have hq5 := ((hq4.alloc (.cells #[.slice A1 m c1] 28)).alloc (.cells #[.slice none 0 0] 25)).alloc (.cells #[.slice A1 m c1] 28)
  have hs5 := ((hs4.alloc (.cells #[.slice A1 m c1] 28)).alloc (.cells #[.slice none 0 0] 25)).alloc (.cells #[.slice A1 m c1] 28)
  have hl5 := (Blk.new (w4.alloc (.cells #[.slice A1 m c1] 28)) 25 #[.slice none 0 0]).alloc (.cells #[.slice A1 m c1] 28)
  have hb5 := Blk.new ((w4.alloc (.cells #[.slice A1 m c1] 28)).alloc (.cells #[.slice none 0 0] 25)) 28 #[.slice A1 m c1]
  have hbb : Below w4.heap.size w4 (((w4.alloc (.cells #[.slice A1 m c1] 28)).alloc (.cells #[.slice none 0 0] 25)).alloc (.cells #[.slice A1 m c1] 28)) := bnew (bnew (bone _ _) _) _
  have hrs5 := hrs4.below hbb
  have hrn5 := hrn4.below hbb
  clear hbb
  have hz5 : w5.heap.size = g4 + 3 := by rw [← hw5]; simp; omega
  have h2l := hq4.lt
  have h3l := hs4.lt
  have h23 : g2 ≠ g3 := hq4.ne_ hs4 (by decide)
  have e1 : (w4.alloc (.cells #[.slice A1 m c1] 28)).heap.size = g4 + 1 := by simp; omega
  have e2 : ((w4.alloc (.cells #[.slice A1 m c1] 28)).alloc (.cells #[.slice none 0 0] 25)).heap.size = g4 + 1 + 1 := by simp; omega
  rw [e1] at hl5
  rw [e2] at hb5
  rw [hw5] at hB5 hq5 hs5 hl5 hb5 hrs5 hrn5
  rw [hg4] at hrs5 hrn5 h2l h3l
  have HB4 := Lib.hid hB4.size
  go_wp2_with fail
  clear hw5 e1 e2 hB4 hq4 hs4 hrs4 hrn4 hc4
  have HG4 := Lib.hid hg4
  clear hg4
  obtain ⟨S, hS⟩ : ∃ S : Nat → Prop, ∀ i, S i ↔ (w5.heap.size ≤ i ∨ i = g4 + 1) := ⟨fun i => w5.heap.size ≤ i ∨ i = g4 + 1, fun i => Iff.rfl⟩
  have HS := Lib.hid hS
  have hSl : ∀ i, i < g4 → ¬ S i := fun i hi h => by rcases (hS i).1 h with h | h <;> omega
  have hSg : ¬ S (g4 + 1 + 1) := fun h => by rcases (hS _).1 h with h | h <;> omega
  have hS2 : ¬ S g2 := hSl _ h2l
  have hS3 : ¬ S g3 := hSl _ h3l
  refine (wpIn_wide (n := 4)).1 ?_
  refine range_told (by omega) (gf := 25) (lb := #[.pointer (some ⟨g4 + 1 + 1, 0, none⟩)]) rfl (enters_of Try.func25 (by kernel_rfl) rfl)
    (all_told (4 - 1) (by omega) (g4 + 1 + 1) g4 m c1 P S A1 xs hsz HPE.out HM.out hc1 hSg hSl w5 (by omega) hb5 hrn5)
    tchK_t (tchK_b fun i hi => (hS i).2 (.inl hi)) (Below.refl _ _) (fun _ => rfl)
    (fun pre W => Tch w5 W S ∧ LstI xs m w5.heap.size (g4 + 1) pre.length W) (fun _ _ _ => False) ?hI (fun _ _ _ _ _ hs _ _ => hs) (fun _ _ _ _ h => h.2.2.1)
    (fun pre x W => Tch w5 W S ∧ LstZ xs m w5.heap.size (g4 + 1) pre.length x.2 W ∧ x.1 = pre.length ∧ (x.1 : Int) < P ∧ W.ownsRow w5.heap.size 3 1 (.slice (some ⟨x.2, 0, none⟩) m m) m (nums (tupI xs x.1))) ?hZ ?hIZ ⟨Tch.refl _ _, none, 0, 0, hl5, fun h => absurd h (by simp)⟩
    (fun x => { tmps := #[.slice A n cap, undef, .pointer (some ⟨g2, 0, none⟩), .pointer (some ⟨g3, 0, none⟩), .pointer (some ⟨g4, 0, none⟩), .int .i64 0, .pointer (some ⟨g4 + 1, 0, none⟩), .int .i64 x.1, .slice (some ⟨x.2, 0, none⟩) m m, undef, undef, undef, .bool true, .bool false, .slice A n cap, .slice As m cs, .tuple #[.agg #[.slice A1 m c1], .int .i64 0], .slice As m cs, .tuple #[.agg #[.slice A1 m c1], .int .i64 0], .agg #[.slice A1 m c1], .int .i64 0, .agg #[.slice A1 m c1], .func (.func 25) #[] #[.pointer (some ⟨g4 + 1 + 1, 0, none⟩)], .int .i64 x.1, .slice (some ⟨x.2, 0, none⟩) m m, undef, undef, undef, undef, undef, undef, undef, undef, undef, undef, undef, undef, undef, undef, undef, undef, undef, undef, undef, undef, undef, undef, undef, undef, undef, undef, undef, undef, undef, undef, undef, undef, undef, undef, undef, undef, undef, undef, undef, undef, undef, undef, undef, undef, undef, undef, undef, undef, undef, undef, undef, undef, undef], defers := [] }) ?assign ?body ?done ?stop
  case hI =>
    rintro pre W W' row ⟨h1, h2⟩ hg hrow
    exact ⟨h1.trans (Tch.of_grown hg fun i _ e => (hS i).2 (.inl (hrow i e.symm).1)) fun _ _ h => h, h2.kept hg fun r e => (hrow r e).2⟩
  case hZ =>
    rintro pre x _ W W' row ⟨h1, h2, h3, h4, h5⟩ hg hrow
    exact ⟨h1.trans (Tch.of_grown hg fun i _ e => (hS i).2 (.inl (hrow i e.symm).1)) fun _ _ h => h, h2.kept hg fun r e => (hrow r e).2, h3, h4, own_kept h5 hg fun r e => (hrow r e).2⟩
  case hIZ =>
    rintro pre x W0 W1 ⟨h1, h2⟩ ⟨h3, h4, h5, h6⟩ hle
    rw [HPE.out] at h4
    exact ⟨h1.trans (Tch.of_below h5 S) fun _ _ h => h, h2.next h5 (own_in h6 (q := x.2) rfl).1, h3, h4, own_base h6 hle⟩
  case assign =>
    intro l x W K hK
    dsimp only [encT]
    gi_wp2
    exact hK
  case body =>
    rintro l pre ⟨i, q⟩ W hl ⟨hT, hL, hi, hiP, hown⟩ hlen
    dsimp only at hi hiP hown hL ⊢
    subst hi
    obtain ⟨k, hk⟩ : ∃ k, pre.length = k := ⟨_, rfl⟩
    rw [hk] at hL hiP hown hlen ⊢
    have f1 := wide_fn 15
    have f2 := wide_fn 18
    have HK := Lib.hid hk
    have hB0 : w5.heap.size ≤ W.heap.size := hT.size
    have hs := hT.blk hs5 hS3
    have hrs := hT.reads hrs5 (by omega) hSl
    have hrt := (Reads.of_own hown).lift (Below.refl _ _)
    have HT := Lib.hid hT
    have HOW := Lib.hid hown
    obtain ⟨Al, nl, cl, hl6, hlast⟩ := hL
    clear hk hT hown hs5 hrs5 hq5 hl5 hb5 hrn5
    have hcl : ∀ W', Reads W' W'.heap.size 1 (some ⟨q, 0, none⟩) m (nums (tupI xs k)) → Calls Try.prog 15 #[.slice (some ⟨q, 0, none⟩) m m] W' fun e w' => ∃ A c, e = .returned (.slice A m c) ∧ w'.ownsRow W'.heap.size 3 1 (.slice A m c) m (nums (tupI xs k)) ∧ Below W'.heap.size W' w' := fun W' h =>
      (clone_any (some ⟨q, 0, none⟩) m m (tupI xs k) W' (by omega) h).mono fun e w' ⟨A, c, h1, h2, h3⟩ => by
        rw [show (tupI xs k).length = m by rw [tup_len]; exact HM.out] at h1 h2
        exact ⟨A, c, h1, h2, h3⟩
    by_cases hk0 : k = 0
    · subst hk0
      have HC := Lib.hid (hcl W hrt)
      clear hlast hcl
      gi_wp2_with (gi_at_call 15; refine (calls_round HC.out).mono ?_; rintro e w6 ⟨A2, c2, rfl, hown2, hb2⟩; have hl7 := hl6.under hb2; obtain ⟨d0, d1⟩ := hl7.one)
      refine ⟨?_, ?_, ?_, ?_⟩
      · exact ((KeepsFrom.of_grownBy (row := none) (only_of_below hb2 none) (fun j e => by cases e)).trans ((KeepsOthers.setCell _ _ _).from _))
      · exact (Tch.of_below hb2 S).put (p := ⟨g4 + 1, 0, none⟩) _ ((HS.out _).2 (.inr rfl))
      · exact (HT.out.trans (Tch.of_below hb2 S) fun _ _ h => h).put (p := ⟨g4 + 1, 0, none⟩) _ ((HS.out _).2 (.inr rfl))
      · refine ⟨A2, m, c2, hl7.set_ 0 _, fun _ => ⟨rfl, ?_⟩⟩
        rw [List.length_append, HK.out]
        exact own_far (own_base hown2 hB0) (own_blk_ne hown2 hl7 (by decide)) _
    · obtain ⟨j, hj⟩ : ∃ j, k = j + 1 := ⟨k - 1, by omega⟩
      obtain ⟨hnl, hlo, hap⟩ := hlast (by omega)
      have hnl' := hnl.symm
      clear hnl
      subst hnl'
      rw [show k - 1 = j by omega] at hlo
      have hj1 : j + 1 ≤ k := by omega
      have hj2 : k ≤ j + 1 := by omega
      have hm0 : 0 < m := by
        refine Nat.pos_of_ne_zero fun e => ?_
        have h1 := HM.out
        rw [e] at h1
        have h2 := HPE.out
        rw [List.length_eq_zero_iff.1 h1] at h2
        have h3 : (1 : Int) = P := h2
        omega
      obtain ⟨r, rfl, hr1, hr2⟩ := own_some hlo hm0
      have hrq : r ≠ q := hap r rfl
      have hr6 : r ≠ g4 + 1 := fun e => own_blk_ne hlo hl6 (by decide) (by rw [e]; rfl)
      have hr3 : r ≠ g3 := by omega
      have hcap := own_cap hlo
      obtain ⟨e0, e1⟩ := hs.one
      obtain ⟨d0, d1⟩ := hl6.one
      have hjP : (j : Int) + 1 < prodI xs := by rw [HPE.out]; omega
      have HC := Lib.hid hcl
      have HJ := Lib.hid hjP
      have hgt : decide ((0 : Int) < (k : Int)) = true := decide_eq_true (by omega)
      have hgtN : decide (0 < k) = true := decide_eq_true (by omega)
      have hfe := full_end xs j
      rw [HM.out] at hfe
      have hce := carry_end xs j
      rw [HM.out] at hce
      have HLO := Lib.hid hlo
      rw [← hce] at hlo
      have HFE := Lib.hid hfe
      clear hap hlast hcl hjP hk0 hfe hce hj
      gi_wp2
      gi_loopw [9] (fun pv wr => ∃ p : Nat, pv = .int .i64 p ∧ p < m ∧ Full xs j (p + 1) ∧ wr.ownsRow w5.heap.size 3 1 (.slice (some ⟨r, 0, none⟩) m cl) m (nums (carryI xs j (p + 1))) ∧ Tch W wr (fun b => b = r)) (fun pv _ => (intOf pv).toNat)
      case atStart => exact ⟨m - 1, by congr 1; omega, by omega, by rw [show m - 1 + 1 = m by omega]; exact HFE.out, by rw [show m - 1 + 1 = m by omega]; exact hlo, Tch.refl _ _⟩
      case round =>
        obtain ⟨p, rfl, hp, hf, hor, htr⟩ := hrel
        obtain ⟨ad, x, rfl, hab, hx, hc⟩ := (htr.reads hrs (by omega) (fun i hi e => by omega)).num hp
        obtain ⟨x1, x2⟩ := h14 x (List.mem_of_getElem? hx)
        obtain ⟨d, hd⟩ : ∃ d, (j : Int) / suf xs (p + 1) % x = d := ⟨_, rfl⟩
        have hcd : wr.cell? ⟨r, p, none⟩ = some (.int .i64 d) := by
          rw [hor.cellAt p (by omega)]
          unfold nums
          rw [List.getElem?_map, carry_at (by omega), tup_at j hx, hd]
          rfl
        have hd0 : 0 ≤ d ∧ d < x := ⟨by rw [← hd]; exact Int.emod_nonneg _ (by omega), by rw [← hd]; exact Int.emod_lt_of_pos _ (by omega)⟩
        have hzr := hor.frozenAt p
        have he0 : wr.cell? ⟨g3, 0, none⟩ = some (.slice (some ad) m cs) := (htr.blk hs (fun e => hr3 e.symm)).one.1
        have hd6 := htr.blk hl6 (fun e => hr6 e.symm)
        obtain ⟨q0, q1⟩ := hd6.one
        have p0 : (0 : Int) ≤ (p : Int) := Int.natCast_nonneg _
        have p1 : (p : Int) < (m : Int) := by omega
        have p2 : decide ((0 : Int) ≤ (p : Int)) = true := decide_eq_true p0
        have hfs := full_step hsz (by omega) hx hf
        rw [hd] at hfs
        have HOR := Lib.hid hor
        have HTR := Lib.hid htr
        have HD := Lib.hid hd
        have HX := Lib.hid hx
        have HF := Lib.hid hf
        have HFS := Lib.hid hfs
        have HS6 := Lib.hid hd6
        clear hor htr hd hx hf hfs hd6 e0 d0 d1
        by_cases hdx : d = x - 1
        · have b1 : (d == x - 1) = true := by simp [hdx]
          have HDX := Lib.hid hdx
          clear hdx
          gi_wp2_with fail
          refine wpIn_region_tail 13 (by kernel_rfl) (by kernel_rfl) (by kernel_rfl) ?_
          simp only [List.take_succ_cons, List.take_zero, List.drop_succ_cons, List.drop_zero]
          repeat still_step
          try refine wpStill_nil ?_
          gi_wp2
          have hfp : Full xs j p := HFS.out.2 HDX.out
          have hp0 : p ≠ 0 := fun e => by rw [e] at hfp; exact full_zero hsz (by omega) HJ.out hfp
          go_roundw
          case rel =>
            have hown : (wr.setCell ⟨r, p, none⟩ (.int .i64 0)).drew.ownsRow w5.heap.size 3 1 (.slice (some ⟨r, 0, none⟩) m cl) m (nums (carryI xs j (p - 1 + 1))) := by
              rw [show p - 1 + 1 = p by omega, ← carry_set (xs := xs) (i := j) (p := p) (by rw [HM.out]; exact hp)]
              have := (HOR.out.stored p (.int .i64 0)).1.drew
              unfold nums at this ⊢
              rw [List.map_set]
              exact this
            have hpe : Value.int .i64 ((p : Int) - 1) = .int .i64 ((p - 1 : Nat) : Int) := by congr 1; omega
            have hff : Full xs j (p - 1 + 1) := by rw [show p - 1 + 1 = p by omega]; exact hfp
            exact ⟨p - 1, hpe, by omega, hff, hown, (HTR.out.put (p := ⟨r, p, none⟩) _ rfl).drew⟩
          case measure => simp [intOf]; omega
        · have b1 : (d == x - 1) = false := by simp [hdx]
          have HDX := Lib.hid hdx
          have hst := (HOR.out.stored p (.int .i64 (d + 1))).1.drew
          have hnx := carry_next hsz (by omega) HX.out HF.out (by rw [HD.out]; exact hdx)
          rw [HD.out] at hnx
          have hst' : (wr.setCell ⟨r, p, none⟩ (.int .i64 (d + 1))).drew.ownsRow w5.heap.size 3 1 (.slice (some ⟨r, 0, none⟩) m cl) m (nums (tupI xs (k : Int))) := by
            rw [show (k : Int) = (j : Int) + 1 by omega, ← hnx]
            unfold nums at hst ⊢
            rw [List.map_set]
            exact hst
          have htr7 : Tch W (wr.setCell ⟨r, p, none⟩ (.int .i64 (d + 1))).drew (fun b => b = r) := (HTR.out.put (p := ⟨r, p, none⟩) _ rfl).drew
          have hqb : ∀ g, (Value.slice (some ⟨q, 0, none⟩) m m).ownBlock = some g → ¬ g = r := fun g hg e => by
            have h1 : q = g := by simpa [Value.ownBlock] using hg
            omega
          have hown7 := htr7.own HOW.out hqb
          have hl67 := htr7.blk hl6 (fun e => hr6 e.symm)
          have hq := equal_any (some ⟨r, 0, none⟩) (some ⟨q, 0, none⟩) m m cl m _ _ _ (by omega) (by omega) (Reads.of_own hst') (Reads.of_own hown7)
          rw [show eqB (tupI xs (k : Int)) (tupI xs (k : Int)) = true from decide_eq_true rfl] at hq
          obtain ⟨v0, v1⟩ := hl67.one
          have HQ := Lib.hid hq
          have HR7 := Lib.hid (Reads.of_own hown7)
          have HL7 := Lib.hid hl67
          have HT7 := Lib.hid htr7
          clear hdx hst hnx hst' htr7 hown7 hl67 hq
          gi_wp2_with fail
          refine wpIn_region_tail 13 (by kernel_rfl) (by kernel_rfl) (by kernel_rfl) ?_
          simp only [List.take_succ_cons, List.take_zero, List.drop_succ_cons, List.drop_zero]
          repeat still_step
          try refine wpStill_nil ?_
          gi_wp2_with fail
          refine (calls_round HQ.out).mono ?_
          rintro e w8 ⟨rfl, hb8⟩
          have hl8 := HL7.out.under hb8
          have hC8 := HC.out w8 (HR7.out.lift hb8)
          clear HQ
          gi_wp2_with fail
          refine (calls_round hC8).mono ?_
          rintro e w9 ⟨A2, c2, rfl, hown9, hb9⟩
          have hl9 := hl8.under hb9
          obtain ⟨t0, t1⟩ := hl9.one
          clear hC8
          gi_wp2_with fail
          have hb89 := bto hb8 hb9
          refine ⟨?_, ?_, ?_, ?_⟩
          · exact ((keeps_row HLO.out HT7.out).trans (KeepsFrom.of_grownBy (row := none) (only_of_below hb89 none) (fun j e => by cases e))).trans ((KeepsOthers.setCell _ _ _).from _)
          · exact ((HT7.out.mono (S' := S) fun i _ e => (HS.out _).2 (.inl (by rw [e]; exact hr1))).trans (Tch.of_below hb89 S) fun _ _ h => h).put (p := ⟨g4 + 1, 0, none⟩) _ ((HS.out _).2 (.inr rfl))
          · exact (HT.out.trans ((HT7.out.mono (S' := S) fun i _ e => (HS.out _).2 (.inl (by rw [e]; exact hr1))).trans (Tch.of_below hb89 S) fun _ _ h => h) fun _ _ h => h).put (p := ⟨g4 + 1, 0, none⟩) _ ((HS.out _).2 (.inr rfl))
          · refine ⟨A2, m, c2, hl9.set_ 0 _, fun _ => ⟨rfl, ?_⟩⟩
            rw [List.length_append, HK.out]
            exact own_far (own_base hown9 (Nat.le_trans hB0 (Nat.le_trans HT7.out.size hb8.size))) (own_blk_ne hown9 hl9 (by decide)) _
  case done =>
    rintro D ys W hD hlen ⟨hT, hL⟩ hK
    rw [hlen] at hL
    have hq := hT.blk hq5 hS2
    have hs := hT.blk hs5 hS3
    have hrs := hT.reads hrs5 (by omega) hSl
    obtain ⟨Al, nl, cl, hl6, hlast⟩ := hL
    obtain ⟨hnl, hlo⟩ := hlast (by omega)
    have hnl' := hnl.symm
    clear hlast hnl
    subst hnl'
    have hlr := (Reads.of_own hlo).lift (Below.refl _ _)
    obtain ⟨e0, e1⟩ := hs.one
    obtain ⟨d0, d1⟩ := hl6.one
    obtain ⟨q0, q1⟩ := hq.one
    have hDq : D ≠ g2 := by omega
    have hBW : Below w.heap.size w W := hB5.trans (hT.below (B := w.heap.size) (by have := hB5.size; omega) fun i hi => hSl i (by have := HB4.out; have := HG4.out; omega))
    have HK := Lib.hid hK
    have HT := Lib.hid hT
    clear hs5 hrs5 hq5 hl5 hb5 hrn5 hK hT hlen
    go_wp2_with fail
    go_loop [10, 11, 65] (fun _ _ iv => ∃ p : Nat, iv = .int .i64 p ∧ p ≤ m) (fun _ _ iv => m - (intOf iv).toNat)
    case atStart => exact ⟨0, rfl, by omega⟩
    case round =>
      obtain ⟨p, rfl, hp⟩ := hrel
      by_cases hlt : p < m
      · obtain ⟨ad, x, rfl, hab, hx, hc⟩ := hrs.num hlt
        obtain ⟨al, y, rfl, hlb, hy, hcl⟩ := hlr.num hlt
        obtain ⟨x1, x2⟩ := h14 x (List.mem_of_getElem? hx)
        have hy' := tup_last hsz hx
        rw [HPE.out, show ((P : Nat) : Int) - 1 = ((P - 1 : Nat) : Int) by omega, hy] at hy'
        obtain rfl := Option.some.inj hy'
        have b1 : (x - 1 != x - 1) = false := by simp
        have hlr' := Lib.hid hlr
        clear hx hy hy' hlr
        go_wp2_with fail
        go_round
        case rel => exact ⟨p + 1, by go_num, by omega⟩
        case measure => simp [intOf]; omega
      · obtain rfl : p = m := by omega
        go_wp2_with fail
        have hfin : (W.setCell ⟨g2, 0, none⟩ (.bool true)).heap[D]? = some (.deferred (some [])) := (Below.heap_setCell W ⟨g2, 0, none⟩ _ D hDq).trans HK.out
        have hbk : Blk (W.setCell ⟨g2, 0, none⟩ (.bool true)) g2 4 #[.bool true] := hq.set_ 0 _
        have hBf : Below w.heap.size w (W.setCell ⟨g2, 0, none⟩ (.bool true)) := hBW.setCell (p := ⟨g2, 0, none⟩) (by have := HG2.out; simp; omega) _
        refine ⟨by simp, .inl ⟨_, _, rfl, run_takeDeferred hfin, ?_⟩⟩
        have hlast := res_cell hbk hDq hBf (by have := HB4.out; have := HG4.out; omega)
        exact ⟨_, (hlast _ rfl).1, rfl, (hlast #[undef, undef, .pointer (some ⟨g2, 0, none⟩)] rfl).2⟩
  case stop =>
    rintro D c pre W _ _ h _
    exact h.elim
theorem walk (a0 : Option Addr) (len0 cap0 : Nat) (z0 : List Int) (w : World) (w0 : IsRow .u8 w a0 len0 cap0 z0) :
    Calls Try.prog 6 #[.slice a0 len0 cap0] w fun e w' => e = .returned (.bool true) ∧ Below w.heap.size w w' := by
  obtain ⟨hr, hn, _, h8⟩ := row_reads w0
  exact core a0 len0 cap0 (z0.take len0) w hn hr (fun x hx => by have := bounds_u8 (h8 x hx); omega)

set_option maxRecDepth 100000 in
theorem lifted (os : Os) (started : os.Started) (H : Type) (enc : TypeId × Value → H) :
    ReturnsInHanded {} Try.checked os 6 .any (Rows.shapeCarriesSpec.pre6 enc Try.prog Try.f6 Rows.shapeCarriesRow.domain false) (Rows.shapeCarriesSpec.post enc Try.prog Try.f6 false true false false) := by
  refine returnsInHanded_of_change (C := Try.checked) own started (by kernel_rfl) Try.func6
    (ChangeSpec.witness6 (enc := enc) (C := Try.checked) false ⟨#[], #[.slice none 0 0], []⟩ 8 (by kernel_rfl) (by kernel_rfl) (by kernel_rfl) (by kernel_rfl)) ?_
  intro W base args ds gs before hval0 hW hcnd _
  have hval : ∀ (j : Nat) t v, Try.f6.params[j]? = some t → args[j]? = some v → Value.okWide Try.prog W .any base t v := hval0
  have hW' := hW
  obtain ⟨p, q, hA0, hV, rfl, hfz, hnd⟩ := hW
  have hA : DataW.TrodAll enc Try.prog W 0 (fun _ => true) true Try.f6.params.toList args.toList ds p := hA0
  rw [Try.params6] at hA hval
  obtain ⟨v0, vs0, d0, ds0, p0, q0, hargs, rfl, rfl, h0, r0⟩ := trodAll_cons hA
  obtain ⟨rfl, rfl, rfl⟩ := trodAll_nil r0
  obtain rfl : args = #[v0] := by cases args; simp_all
  obtain ⟨rfl, rfl⟩ := trodVars_none hV
  obtain ⟨a0, len0, cap0, rfl⟩ := okWide_slice Try.underlying22 (hval 0 22 v0 rfl rfl)
  have k0 := h0
  have lt0 : ∀ x ∈ p0, x.block < W.heap.size := by obtain ⟨m, hm⟩ := k0; exact DataW.trod_lt m _ _ _ hm
  obtain ⟨z0, w0⟩ : ∃ zs, IsRow .u8 W a0 len0 cap0 zs := by
    obtain ⟨fuel, hf⟩ := h0
    rcases open_ints Try.underlying22 Try.underlying5 (by kernel_rfl) hf with ⟨hcs, _⟩ | ⟨x, l, c, zs, hcs, _, hl, hm, hz, _, hcell, hwz⟩
    · simp [Value.cells] at hcs
      obtain ⟨rfl, rfl, rfl⟩ := hcs
      exact ⟨[], .inl ⟨rfl, rfl, rfl, rfl⟩⟩
    · simp [Value.cells] at hcs
      obtain ⟨rfl, rfl, rfl⟩ := hcs
      exact ⟨zs, .inr ⟨_, rfl, hl, hm, by simpa using hz, hcell, hwz⟩⟩
  clear hA0 hval0
  refine (walk a0 len0 cap0 z0 W w0).mono fun e W' ⟨he, bel⟩ => ?_
  subst he
  exact ⟨_, rfl, _, _, _, [], _, [], hW', trodAll_mk1 (shut_bool Try.underlying4 _), (trodAll_cons_mk (Below.trod laidOut (by kernel_rfl) (of_decide_eq_true (by kernel_rfl)) k0 bel lt0) trodAll_mk0), rfl, bel.frame _, fun h => by cases h⟩

theorem over : Rows.shapeCarriesRow.holds Try.pinned (OpenSpec.ofChange Rows.shapeCarriesSpec) :=
  OpenClaim.holds_of_wide 6 Try.f6 rfl rfl rfl rfl rfl rfl rfl ⟨rfl, rfl, rfl, rfl, rfl⟩ rfl rfl rfl rfl rfl (by kernel_rfl) Try.func6 (by kernel_rfl)
    (of_decide_eq_true (by kernel_rfl)) (by unfold Func.isWrapper; first | (rw [if_pos (by decide +kernel)]; kernel_rfl) | (rw [if_neg (by decide +kernel)]; exact ⟨rfl, rfl⟩))
    (fun os started H enc _ => lifted os started H enc)

theorem proved : Rows.ShapeCarriesSaid := over
end Go.Proofs.Ytepcgokogiphhaa.shapeCarries

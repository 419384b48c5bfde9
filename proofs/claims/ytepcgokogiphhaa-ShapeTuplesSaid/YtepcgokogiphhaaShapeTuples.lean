/- For every input ShapeTuples returns true; its arguments read as before. No condition. -/
import Derived.Test.YtepcgokogiphhaaRows
import Derived.WalkKit
import Derived.ProofKit
import Derived.OpenShut
import Derived.Test.YtepcgokogiphhaaShapeAll
import Derived.Test.YtepcgokogiphhaaShapeIdx
import Derived.Test.YtepcgokogiphhaaShapeRef
import Derived.Deep.Cut
import Derived.Test.YtepcgokogiphhaaShapeEq
import Derived.Test.YtepcgokogiphhaaStillIn
import Derived.Deep.DeepCutAuto
import Derived.Deep.RegionHeld3
import Derived.ShutString
import Derived.ChangeOld
import Derived.Below
namespace Go.Proofs.Ytepcgokogiphhaa.shapeTuples
open Go.Proofs.Ytepcgokogiphhaa.shp Go.Proofs.Ytepcgokogiphhaa.told Go.Proofs.Ytepcgokogiphhaa.words Go.Shelf
open Go.ChangeShapes Go.WideShapes Go.ChangeAt Go.RowKit
open Go.ChangeMaps (open_string shut_string)
set_option linter.unusedVariables false

theorem own : ownKnob Try.prog.godebug = none := by kernel_rfl
theorem laidOut : laidOutB Try.prog = true := by kernel_rfl

def IsRow (k : IntKind) (w : World) (a : Option Addr) (len cap : Nat) (zs : List Int) : Prop :=
  (a = none ∧ len = 0 ∧ cap = 0 ∧ zs = []) ∨
  ∃ x, a = some x ∧ len ≤ cap ∧ cap ≤ maxLen ∧ zs.length = cap ∧ (∀ i, i < zs.length → w.cell? (x.add i) = some (.int k (zs.getD i 0))) ∧ ∀ n ∈ zs, (Lit.int k n).wf = true

theorem row_reads {k : IntKind} {w : World} {a : Option Addr} {len cap : Nat} {zs : List Int} (h : IsRow k w a len cap zs) :
    Reads w w.heap.size 1 a len ((zs.take len).map (Value.int k)) ∧ len ≤ 9223372036854775807 ∧ len ≤ cap ∧ ∀ x ∈ zs.take len, (Lit.int k x).wf = true := by
  rcases h with ⟨rfl, rfl, rfl, rfl⟩ | ⟨x, rfl, hl, hm, hz, hcell, hwz⟩
  · exact ⟨by simpa using (Reads.none_ (w := w) (B := w.heap.size) (size := 1) (A := none)), by omega, by omega, by simp⟩
  · refine ⟨⟨by simp; omega, fun h0 => ⟨x, rfl, ?_, fun j u hu => ?_⟩⟩, by unfold maxLen at hm; omega, hl, fun x hx => hwz x (List.mem_of_mem_take hx)⟩
    · have := World.block_lt_of_cell? w _ (hcell 0 (by omega))
      rw [block_of_add] at this; exact this
    · rw [List.getElem?_map, List.getElem?_take] at hu
      split at hu
      · cases hy : zs[j]? with
        | none => rw [hy] at hu; simp at hu
        | some y =>
          rw [hy] at hu
          simp at hu
          subst hu
          have hl := (List.getElem?_eq_some_iff.1 hy).1
          rw [hcell j hl]; simp [hy]
      · simp at hu
open Go
attribute [local go_sem] Oper.semAt_some
theorem res_cell {w wf : World} {D g : Nat} {v : Value} (hg : Blk wf g 4 #[v]) (hD : D ≠ g) (hB : Below w.heap.size w wf) (hwD : w.heap.size ≤ D) (tmps : Array Value) (ht : tmps.getD 2 undef = .pointer (some ⟨g, 0, none⟩)) :
    (results Try.f7 tmps).run Try.prog (wf.putObj D (.deferred none)) = .ok v (wf.putObj D (.deferred none)) ∧ Below w.heap.size w (wf.putObj D (.deferred none)) := by
  have hgr := grownBy_putObj' wf D (.deferred none)
  have hc : (wf.putObj D (.deferred none)).cell? ⟨g, 0, none⟩ = some v := (World.cell?_of_block (a := ⟨g, 0, none⟩) (hgr.block g hg.lt (fun e => hD (by injection e with e; exact e.symm)))).trans (hg.cell 0)
  have ht' : tmps[2]?.getD undef = .pointer (some ⟨g, 0, none⟩) := by simpa using ht
  have hr : Try.f7.results = #[.cell 2 4] := rfl
  refine ⟨?_, hB.grown hgr hB.size (fun k e => by injection e with e; omega)⟩
  simp [results, hr, ht', asAddr, loadVar, isAgg, run_underlying (show Try.prog.underlying 4 = some .bool from Try.underlying4), hc]
theorem own_kept {W W' : World} {base : Nat} {e : TypeId} {size : Nat} {v : Value} {n : Nat} {xs : List Value} {row : Option Nat} (h : W.ownsRow base e size v n xs) (hg : W.grownBy W' row) (hr : ∀ r, row = some r → ∃ o : Obj, W.heap[r]? = some o ∧ o.isCells = false) : W'.ownsRow base e size v n xs := by
  refine h.kept hg ?_
  rcases h.2 with ⟨rfl, _⟩ | ⟨g, cap, cur, rfl, _, hgb, _⟩
  · exact .inl rfl
  · refine .inr fun e' => ?_
    obtain ⟨o, ho, hc⟩ := hr g (by simpa [Value.ownBlock] using e'.symm)
    rw [hgb] at ho; cases ho; cases hc
theorem blk_kept {W W' : World} {g : Nat} {t : TypeId} {cs : Array Value} {row : Option Nat} (h : Blk W g t cs) (hg : W.grownBy W' row) (hr : ∀ r, row = some r → ∃ o : Obj, W.heap[r]? = some o ∧ o.isCells = false) : Blk W' g t cs :=
  h.grown hg fun e => by
    obtain ⟨o, ho, hc⟩ := hr g e.symm
    rw [show W.heap[g]? = _ from h] at ho; cases ho; cases hc
theorem own_far {W : World} {base : Nat} {e : TypeId} {size : Nat} {v : Value} {n : Nat} {xs : List Value} {g : Nat} (h : W.ownsRow base e size v n xs) (hg : v.ownBlock ≠ some g) (u : Value) : (W.setCell ⟨g, 0, none⟩ u).ownsRow base e size v n xs :=
  h.kept (grownBy_setCell' W g u) (.inr hg)
theorem keeps_row {W W' : World} {base B : Nat} {e : TypeId} {n c r : Nat} {xs : List Value} (h : W.ownsRow base e 1 (.slice (some ⟨r, 0, none⟩) n c) n xs) (ht : Tch W W' (fun b => b = r)) : KeepsFrom B W W' :=
  ⟨ht.size, fun k o _ hk ho => by
    refine (ht.block k (Array.getElem?_eq_some_iff.1 hk).1 fun e => ?_).trans hk
    subst e
    rcases h.2 with ⟨h', _⟩ | ⟨g, cap, cur, h', _, hg, _⟩
    · cases h'
    · injection h' with h' _ _
      injection h' with h'
      injection h' with h' _ _
      subst h'
      rw [hg] at hk
      cases hk
      cases ho⟩
set_option maxRecDepth 100000 in
set_option maxHeartbeats 4000000 in
theorem core (A : Option Addr) (n cap : Nat) (l : List Int) (w : World) (hn : n ≤ 9223372036854775807) (hr : Reads w w.heap.size 1 A n (bytes8 l)) (h8 : ∀ x ∈ l, 0 ≤ x ∧ x < 256) :
    Calls Try.prog 7 #[.slice A n cap] w fun e w' => e = .returned (.bool true) ∧ Below w.heap.size w w' := by
  obtain ⟨hsz, hl3, h14⟩ := small_szs l
  obtain ⟨xs, hxs⟩ : ∃ xs, xs = smallI l := ⟨_, rfl⟩
  have hsm := fun wx hx => small_any A n cap l wx hn hx h8
  rw [← hxs] at hsm hsz hl3 h14
  have hpr := (szs_small hl3 h14).2
  have hP := szs_prod hsz
  obtain ⟨P, hPe⟩ : ∃ P : Nat, prodI xs = P := ⟨(prodI xs).toNat, by omega⟩
  rw [hPe] at hP hpr
  have HPE := Lib.hid hPe
  obtain ⟨m, hm⟩ : ∃ m, xs.length = m := ⟨_, rfl⟩
  have HM := Lib.hid hm
  rw [hm] at hl3
  have hRl : (allI xs).length = P := by
    have := all_len (xs := xs) fun y hy => (hsz.2 y hy).1
    rw [hPe] at this; omega
  have hra := fun A n cap W h1 h2 => ref_all xs A n cap W h1 h2 hsz
  unfold AllOf at hra
  rw [hRl] at hra
  have hRat := fun k : Nat => all_at hsz k
  obtain ⟨R, hR⟩ : ∃ R, allI xs = R := ⟨_, rfl⟩
  rw [hR] at hra hRat hRl
  have HRL := Lib.hid hRl
  have HRAT := Lib.hid hRat
  clear hxs hPe hm hRl hRat hR
  refine (callsIn_wide (n := 4)).1 ?_
  refine callsIn_of_wp_marks Try.func7 rfl trivial ?_ rfl
  simp only [Try.ntmps7, List.size_toArray, List.length_cons, List.length_nil, Nat.reduceAdd, Nat.reduceSub, Array.replicate_succ, Array.replicate_zero, List.push_toArray, List.append_toArray, List.nil_append, List.cons_append]
  refine wpIn_wide.2 ?_
  refine Code.wp_mono NoPanic.imp ?_
  have hB1 := bone w (.cells #[.bool false] 4)
  have hq1 := Blk.new w 4 #[.bool false]
  go_wp2_with fail
  refine (awake_any (w.alloc (.cells #[.bool false] 4))).mono ?_
  obtain ⟨g2, hg2⟩ : ∃ g, w.heap.size = g := ⟨_, rfl⟩
  obtain ⟨wa, hwa⟩ : ∃ wa, w.alloc (.cells #[.bool false] 4) = wa := ⟨_, rfl⟩
  have hg2w : w.heap.size ≤ g2 := by omega
  rw [hwa, hg2] at hq1
  rw [hwa] at hB1 ⊢
  rw [hg2]
  have HG2 := Lib.hid hg2
  clear hwa hg2
  rintro e w1 ⟨rfl, hb1⟩
  have hB1 := bto hB1 hb1
  have hq1 := hq1.under hb1
  have hr1 := hr.lift hB1
  clear hb1 hr
  go_wp2_with fail
  refine (hsm w1 hr1).mono ?_
  rintro e w2 ⟨As, cs, rfl, hown2, hb2⟩
  rw [HM.out] at hown2 ⊢
  have hB2 := bnew (bto hB1 hb2) (.cells #[.slice As m cs] 25)
  have hq2 := (hq1.under hb2).under (bone w2 (.cells #[.slice As m cs] 25))
  have hs2 := Blk.new w2 25 #[.slice As m cs]
  have hown2 := own_under hown2 (bone w2 (.cells #[.slice As m cs] 25))
  obtain ⟨s0, s1⟩ := hs2.one
  clear hsm hr1 hB1 hq1 hb2
  go_wp2_with fail
  have hrs2 := Reads.of_own hown2
  refine (new_yes As m cs xs _ (by omega) hrs2 hsz (by rw [HPE.out]; omega)).mono ?_
  obtain ⟨g3, hg3⟩ : ∃ g, w2.heap.size = g := ⟨_, rfl⟩
  obtain ⟨w3, hw3⟩ : ∃ wa, w2.alloc (.cells #[.slice As m cs] 25) = wa := ⟨_, rfl⟩
  rw [hw3] at hB2 hq2 hs2 hown2 hrs2 ⊢
  rw [hg3] at hs2 ⊢
  clear hw3 hg3 s0 s1
  rintro e w4 ⟨A1, c1, rfl, hown4, hc1, hb4⟩
  have hB4 := bto hB2 hb4
  have hq4 := hq2.under hb4
  have hs4 := hs2.under hb4
  have hrs4 := hrs2.lift hb4
  have hrn4 := Reads.of_own hown4
  have hcs := own_cap hown2
  clear hB2 hq2 hs2 hown2 hrs2 hb4 hown4
  have hB4 := bnew hB4 (.cells #[.slice A1 m c1] 28)
  have hq4 := hq4.alloc (.cells #[.slice A1 m c1] 28)
  have hs4 := hs4.alloc (.cells #[.slice A1 m c1] 28)
  have hn4 := Blk.new w4 28 #[.slice A1 m c1]
  have hrs4 := hrs4.lift (bone w4 (.cells #[.slice A1 m c1] 28))
  have hrn4 := hrn4.lift (bone w4 (.cells #[.slice A1 m c1] 28))
  obtain ⟨s0, s1⟩ := hs4.one
  go_wp2_with fail
  obtain ⟨g4, hg4⟩ : ∃ g, w4.heap.size = g := ⟨_, rfl⟩
  obtain ⟨w5, hw5⟩ : ∃ wa, w4.alloc (.cells #[.slice A1 m c1] 28) = wa := ⟨_, rfl⟩
  rw [hw5] at hB4 hq4 hs4 hn4 hrs4 hrn4 ⊢
  rw [hg4] at hn4 ⊢
  clear s0 s1 hw5 hg4
  refine (hra As m cs w5 hcs hrs4).mono ?_
  rintro e w6 ⟨Ar, cr, rfl, hR6, hb6⟩
  obtain ⟨bx, hbx⟩ : ∃ bx : Obj, Obj.cells #[.slice Ar P cr] 49 = bx := ⟨_, rfl⟩
  have hB7 := bnew (bto hB4 hb6) bx
  have hq7 := (hq4.under hb6).alloc bx
  have hs7 := (hs4.under hb6).alloc bx
  have hn7 := (hn4.under hb6).alloc bx
  have hrs7 := (hrs4.lift hb6).lift (bone w6 bx)
  have hrn7 := (hrn4.lift hb6).lift (bone w6 bx)
  have hR7 := hR6.under (bone w6 bx)
  have ha7 := Blk.new w6 49 #[.slice Ar P cr]
  rw [hbx] at ha7
  clear hB4 hq4 hs4 hn4 hrs4 hrn4 hR6 hb6 hra
  go_upto_region 6 with fail
  try rw [hbx]
  obtain ⟨g5, hg5⟩ : ∃ g, w6.heap.size = g := ⟨_, rfl⟩
  obtain ⟨w7, hw7⟩ : ∃ wa, w6.alloc bx = wa := ⟨_, rfl⟩
  rw [hw7] at hB7 hq7 hs7 hn7 hrs7 hrn7 hR7 ha7 ⊢
  rw [hg5] at ha7 ⊢
  clear hw7 hg5 hbx
  have hci := fun W h => count_any A1 m c1 xs W h hsz
  rw [HPE.out] at hci
  have har := fun W => arity_any A1 m c1 W (by omega)
  have hzi := fun W h => sizes_any A1 m c1 xs W (by omega) h
  unfold Copied at hzi
  rw [HM.out] at hzi
  have heq := fun W (A C : Option Addr) a c h1 h2 => equal_any A C m m a c xs xs W (by omega) (by omega) h1 h2
  rw [show eqB xs xs = true from decide_eq_true rfl] at heq
  have H7 : Hid (∀ w', Below w7.heap.size w7 w' → Below w7.heap.size w7 w' ∧ w'.cell? ⟨g3, 0, none⟩ = some (.slice As m cs) ∧ w'.cell? ⟨g4, 0, none⟩ = some (.slice A1 m c1) ∧ w'.cell? ⟨g5, 0, none⟩ = some (.slice Ar P cr)) :=
    fun w' hb => ⟨hb, (hs7.under hb).one.1, (hn7.under hb).one.1, (ha7.under hb).one.1⟩
  have HRS := Lib.hid hrs7
  have HRN := Lib.hid hrn7
  clear hrs7 hrn7
  go_region_held3 (fun w' => Below w7.heap.size w7 w' ∧ w'.cell? ⟨g3, 0, none⟩ = some (.slice As m cs) ∧ w'.cell? ⟨g4, 0, none⟩ = some (.slice A1 m c1) ∧ w'.cell? ⟨g5, 0, none⟩ = some (.slice Ar P cr))
    (first | exact H7.out _ (Below.refl _ _).drew | exact H7.out _ (bto (‹Below w7.heap.size w7 _ ∧ _›).1 hbn))
    (first
      | (go_at_call 11; refine (hci _ ?_).mono ?_; (exact HRN.out.lift (‹Below w7.heap.size w7 _ ∧ _›).1); rintro e w' ⟨rfl, hbn⟩)
      | (go_at_call 16; refine (har _).mono ?_; rintro e w' ⟨rfl, hbn⟩)
      | (go_at_call 19; refine (hzi _ ?_).mono ?_; (exact HRN.out.lift (‹Below w7.heap.size w7 _ ∧ _›).1); rintro e w' ⟨Az, cz, rfl, hoz, hbn⟩)
      | (go_at_call 18; refine (heq _ _ _ _ _ ?_ ?_).mono ?_; (exact (Reads.of_own hoz).lift (Below.refl _ _)); (exact HRS.out.lift (‹Below w7.heap.size w7 _ ∧ _›).1); rintro e w' ⟨rfl, hbn⟩))
  obtain ⟨hb8, -, -, -⟩ := ‹Below w7.heap.size w7 _ ∧ _›
  rename World => w8
  have hB8 := bto hB7 hb8
  have hq8 := hq7.under hb8
  have hs8 := hs7.under hb8
  have hn8 := hn7.under hb8
  have ha8 := ha7.under hb8
  have hrs8 := HRS.out.lift hb8
  have hrn8 := HRN.out.lift hb8
  have hR8 := hR7.under hb8
  clear hB7 hq7 hs7 hn7 ha7 hR7 H7 HRS HRN hci har hzi heq
  have hcx := (hn8.alloc (.cells #[.int .i64 0] 3)).one.1
  have HB8 := Lib.hid hB8.size
  go_wp2_with fail
  clear hcx
  obtain ⟨nb, hnb⟩ : ∃ nb : Obj, Obj.cells #[.int .i64 0] 3 = nb := ⟨_, rfl⟩
  rw [hnb]
  refine (all_any A1 m c1 _).mono ?_
  rintro e w9 ⟨rfl, hw9⟩
  obtain ⟨g6, hg6⟩ : ∃ g, w8.heap.size = g := ⟨_, rfl⟩
  obtain ⟨pb, hpb⟩ : ∃ pb : Obj, Obj.cells #[.slice A1 m c1] 28 = pb := ⟨_, rfl⟩
  rw [hpb] at hw9
  have hbb : Below w8.heap.size w8 ((w8.alloc nb).alloc pb) := bnew (bone _ _) _
  have hB9 := bto hB8 hbb
  have hq9 := hq8.under hbb
  have hs9 := hs8.under hbb
  have hn9 := hn8.under hbb
  have ha9 := ha8.under hbb
  have hb9 := Blk.new (w8.alloc nb) 28 #[.slice A1 m c1]
  have hc9 := (Blk.new w8 3 #[.int .i64 0])
  rw [hnb] at hc9
  have hc9 := hc9.alloc pb
  rw [hpb] at hb9
  have hrs9 := hrs8.below hbb
  have hrn9 := hrn8.below hbb
  have h2l := hq8.lt
  have h3l := hs8.lt
  have h4l := hn8.lt
  have h5l := ha8.lt
  have e1 : (w8.alloc nb).heap.size = g6 + 1 := by simp; omega
  rw [e1] at hb9 ⊢
  rw [hw9] at hbb hB9 hq9 hs9 hn9 ha9 hb9 hc9 hrs9 hrn9
  have hz9 : w9.heap.size = g6 + 2 := by rw [← hw9]; simp; omega
  rw [hg6] at hc9 hrs9 hrn9 h2l h3l h4l h5l
  have hw8s : w8.heap.size ≤ w9.heap.size := by omega
  have hblk : ∀ i, i < w8.heap.size → w9.heap[i]? = w8.heap[i]? := fun i hi => hbb.block i hi
  go_wp2_with fail
  try rw [hg6]
  clear hw9 e1 hB8 hq8 hs8 hn8 ha8 hrs8 hrn8 hnb hpb
  have HG6 := Lib.hid hg6
  have HBL := Lib.hid hblk
  clear hg6 hblk
  obtain ⟨S, hS⟩ : ∃ S : Nat → Prop, ∀ i, S i ↔ (w9.heap.size ≤ i ∨ i = g6) := ⟨fun i => w9.heap.size ≤ i ∨ i = g6, fun i => Iff.rfl⟩
  have hrs9' := hrs9
  have hrn9' := hrn9
  have HS := Lib.hid hS
  have hSl : ∀ i, i < g6 → ¬ S i := fun i hi h => by rcases (hS i).1 h with h | h <;> omega
  have hSg : ¬ S (g6 + 1) := fun h => by rcases (hS _).1 h with h | h <;> omega
  have hS2 : ¬ S g2 := hSl _ h2l
  have hS3 : ¬ S g3 := hSl _ h3l
  have hS4 : ¬ S g4 := hSl _ h4l
  have hS5 : ¬ S g5 := hSl _ h5l
  refine (wpIn_wide (n := 4)).1 ?_
  refine range_told (by omega) (gf := 25) (lb := #[.pointer (some ⟨g6 + 1, 0, none⟩)]) rfl (enters_of Try.func25 (by kernel_rfl) rfl)
    (all_told (4 - 1) (by omega) (g6 + 1) g6 m c1 P S A1 xs hsz HPE.out HM.out hc1 hSg hSl w9 (by omega) hb9 hrn9)
    tchK_t (tchK_b fun i hi => (hS i).2 (.inl hi)) (Below.refl _ _) (fun _ => rfl)
    (fun pre W => Tch w9 W S ∧ Blk W g6 3 #[.int .i64 (pre.length : Nat)]) (fun _ _ _ => False) ?hI (fun _ _ _ _ _ hs _ _ => hs) (fun _ _ _ _ h => h.2.2.1)
    (fun pre x W => Tch w9 W S ∧ Blk W g6 3 #[.int .i64 (pre.length : Nat)] ∧ x.1 = pre.length ∧ (x.1 : Int) < P ∧ W.ownsRow w9.heap.size 3 1 (.slice (some ⟨x.2, 0, none⟩) m m) m (nums (tupI xs x.1))) ?hZ ?hIZ ⟨Tch.refl _ _, hc9⟩
    (fun x => { tmps := #[.slice A n cap, undef, .pointer (some ⟨g2, 0, none⟩), .pointer (some ⟨g3, 0, none⟩), .pointer (some ⟨g4, 0, none⟩), .int .i64 0, .pointer (some ⟨g5, 0, none⟩), .pointer (some ⟨g6, 0, none⟩), .int .i64 x.1, .slice (some ⟨x.2, 0, none⟩) m m, undef, undef, undef, undef, undef, undef, undef, .bool true, .bool false, .slice A n cap, .slice As m cs, .tuple #[.agg #[.slice A1 m c1], .int .i64 0], .slice As m cs, .tuple #[.agg #[.slice A1 m c1], .int .i64 0], .agg #[.slice A1 m c1], .int .i64 0, .slice As m cs, .slice Ar P cr, .int .i64 0, .bool false, .bool false, .agg #[.slice A1 m c1], .int .i64 P, .slice Ar P cr, .int .i64 P, .bool false, .bool false, .bool false, .agg #[.slice A1 m c1], .int .i64 m, .slice As m cs, .int .i64 m, .bool false, .bool false, .bool false, .agg #[.slice A1 m c1], .slice Az m cz, .slice As m cs, .bool true, .bool false, .bool false, .agg #[.slice A1 m c1], .func (.func 25) #[] #[.pointer (some ⟨g6 + 1, 0, none⟩)], .int .i64 x.1, .slice (some ⟨x.2, 0, none⟩) m m, undef, undef, undef, undef, undef, undef, undef, undef, undef, undef, undef, undef, undef, undef, undef, undef, undef, undef, undef, undef, undef, undef, undef, undef, undef, undef, undef, undef, undef, undef, undef, undef, undef, undef, undef, undef, undef, undef, undef, undef, undef, undef, undef, undef, undef, undef, undef, undef, undef, undef, undef, undef, undef, undef, undef, undef, undef, undef, undef, undef, undef, undef, undef, undef, undef, undef, undef, undef, undef, undef, undef, undef, undef, undef, undef, undef, undef, undef, undef, undef, undef, undef, undef, undef, undef, undef, undef, undef], defers := [] }) ?assign ?body ?done ?stop
  case hI =>
    rintro pre W W' row ⟨h1, h2⟩ hg hrow
    exact ⟨h1.trans (Tch.of_grown hg fun i _ e => (hS i).2 (.inl (hrow i e.symm).1)) fun _ _ h => h, blk_kept h2 hg fun r e => (hrow r e).2⟩
  case hZ =>
    rintro pre x _ W W' row ⟨h1, h2, h3, h4, h5⟩ hg hrow
    exact ⟨h1.trans (Tch.of_grown hg fun i _ e => (hS i).2 (.inl (hrow i e.symm).1)) fun _ _ h => h, blk_kept h2 hg fun r e => (hrow r e).2, h3, h4, own_kept h5 hg fun r e => (hrow r e).2⟩
  case hIZ =>
    rintro pre x W0 W1 ⟨h1, h2⟩ ⟨h3, h4, h5, h6⟩ hle
    rw [HPE.out] at h4
    exact ⟨h1.trans (Tch.of_below h5 S) fun _ _ h => h, h2.under h5, h3, h4, own_base h6 hle⟩
  case assign =>
    intro l x W K hK
    dsimp only [encT]
    gi_wp2
    exact hK
  case body =>
    rintro l pre ⟨i, q⟩ W hl ⟨hT, hL, hi, hiP, hown⟩ hlen
    dsimp only at hi hiP hown hL ⊢
    subst hi
    obtain ⟨k, hk⟩ : ∃ k, pre.length = k := ⟨_, rfl⟩
    rw [hk] at hL hiP hown hlen ⊢
    have f1 := wide_fn 18
    have f2 := wide_fn 12
    have f3 := wide_fn 17
    have f4 := wide_fn 13
    have HK := Lib.hid hk
    have hB0 : w9.heap.size ≤ W.heap.size := hT.size
    have hkP : (k : Int) < prodI xs := by rw [HPE.out]; exact hiP
    obtain ⟨gR, A', c', hAr, hcR, hrR, _, _, hPc⟩ := hR8.at_ (HRAT.out k hkP)
    subst hAr
    rw [show (tupI xs (k : Int)).length = m by rw [tup_len]; exact HM.out] at hcR hrR
    have hgR : gR < g6 := by have := World.block_lt_of_cell? w8 _ hcR; have := HG6.out; dsimp only at *; omega
    have hs := hT.blk hs9 hS3
    have hnn := hT.blk hn9 hS4
    have ha := hT.blk ha9 hS5
    have hrs := (hT.reads hrs9 (by omega) hSl).more (show g6 ≤ W.heap.size by omega)
    have hrn := (hT.reads hrn9 (by omega) hSl).more (show g6 ≤ W.heap.size by omega)
    have hrt := (Reads.of_own hown).lift (Below.refl _ _)
    have hcW : W.cell? ⟨gR, k, none⟩ = some (.slice A' m c') := (World.cell?_of_block (a := ⟨gR, k, none⟩) ((hT.block gR (by omega) (hSl _ hgR)).trans (HBL.out gR (by have := HG6.out; omega)))).trans hcR
    have hrR' : Reads W W.heap.size 1 A' m (nums (tupI xs k)) := by
      refine (hT.reads (B := g6) ?_ (by omega) hSl).more (by omega)
      have := hrR.keep (w' := w9) fun p hp => World.cell?_of_block (HBL.out _ hp)
      rw [HG6.out] at this; exact this
    obtain ⟨c30, c31⟩ := hs.one
    obtain ⟨c40, c41⟩ := hnn.one
    obtain ⟨c50, c51⟩ := ha.one
    obtain ⟨c60, c61⟩ := hL.one
    have heq := fun W (A C : Option Addr) a c h1 h2 => equal_any A C m m a c (tupI xs k) (tupI xs k) W (by omega) (by omega) h1 h2
    rw [show eqB (tupI xs (k : Int)) (tupI xs (k : Int)) = true from decide_eq_true rfl] at heq
    have hkk : decide ((0 : Int) ≤ (k : Int)) = true := decide_eq_true (by omega)
    have HT := Lib.hid hT
    have HOW := Lib.hid hown
    have hEq1 := heq W (some ⟨q, 0, none⟩) A' m c' hrt hrR'
    have HEQ := Lib.hid heq
    clear hk hT hown hs9 hrs9 hq9 hb9 hrn9 hn9 ha9 hc9 hcR hrR heq
    gi_wp2_with fail
    refine (calls_round hEq1).mono ?_
    rintro e w10 ⟨rfl, hb10⟩
    have hn10 := hnn.under hb10
    obtain ⟨a0, a1⟩ := hn10.one
    have hrn10 := hrn.lift hb10
    have hrq10 := hrt.lift hb10
    have ht : Calls Try.prog 12 #[.agg #[.slice A1 m c1], .int .i64 k] w10 fun e w2 => ∃ g, e = .returned (.tuple #[.slice (some ⟨g, 0, none⟩) m m, .int .i64 0]) ∧ w2.ownsRow w10.heap.size 3 1 (.slice (some ⟨g, 0, none⟩) m m) m (nums (tupI xs k)) ∧ Below w10.heap.size w10 w2 :=
      (tuple_any A1 m c1 xs k w10 hc1 hrn10 hsz).mono fun e w2 ⟨hb2, h2⟩ => by
        rcases h2 with ⟨h, _⟩ | ⟨_, g, h, ho⟩
        · exact absurd ⟨by omega, hkP⟩ h
        · rw [HM.out] at h ho; exact ⟨g, h, ho, hb2⟩
    clear hEq1 c30 c40 c50 hcW hrR'
    gi_wp2_with fail
    refine (calls_round ht).mono ?_
    rintro e w11 ⟨g11, rfl, hown11, hb11⟩
    have hn11 := hn10.under hb11
    obtain ⟨a2, a3⟩ := hn11.one
    obtain ⟨hV, hE⟩ := idx_V hsz (i := k) (by omega) hkP
    have hix : Calls Try.prog 17 #[.agg #[.slice A1 m c1], .slice (some ⟨q, 0, none⟩) m m] w11 fun e w' => e = .returned (.tuple #[.int .i64 k, .int .i64 0]) ∧ Below w11.heap.size w11 w' := by
      have := index_any A1 (some ⟨q, 0, none⟩) m c1 m xs (tupI xs k) w11 (by omega) (hrn10.lift hb11) (hrq10.lift hb11) hsz
      rw [hV, hE] at this; exact this
    clear ht hV hE a0
    gi_wp2_with fail
    refine (calls_round hix).mono ?_
    rintro e w12 ⟨rfl, hb12⟩
    have hEq2 := HEQ.out w12 (some ⟨g11, 0, none⟩) (some ⟨q, 0, none⟩) m m ((Reads.of_own hown11).lift hb12) ((hrq10.lift hb11).lift hb12)
    clear hix a2
    gi_wp2_with fail
    refine (calls_round hEq2).mono ?_
    rintro e w13 ⟨rfl, hb13⟩
    have hbW : Below W.heap.size W w13 := bto (bto (bto hb10 hb11) hb12) hb13
    have ho13 := own_under HOW.out hbW
    have hs13 := hs.under hbW
    have hn13 := hnn.under hbW
    have hL13 := hL.under hbW
    have hrsB : Reads w13 g6 1 As m (nums xs) := (HT.out.reads hrs9' (by omega) hSl).below (hbW.mono (by omega))
    have hrnB : Reads w13 g6 1 A1 m (nums xs) := (HT.out.reads hrn9' (by omega) hSl).below (hbW.mono (by omega))
    have hq9 := (own_in HOW.out (q := q) rfl).1
    have hq3 : g3 ≠ q := by omega
    have hq4 : g4 ≠ q := by omega
    have hq6 : g6 ≠ q := by omega
    have hg13 : g6 ≤ w13.heap.size := by have := hbW.size; omega
    have HBW := Lib.hid hbW
    have HO13 := Lib.hid ho13
    clear hEq2 hn10 hn11 hown11 hrn10 hrq10 hs hnn ha hL hrs hrn hrt hbW
    gi_wp2_with fail
    gi_loopw [14, 15, 16, 98] (fun _ _ _ iv wr => ∃ j : Nat, j ≤ m ∧ iv = .int .i64 j ∧ wr.ownsRow w9.heap.size 3 1 (.slice (some ⟨q, 0, none⟩) m m) m (nums (tupI xs k)) ∧ Tch w13 wr (fun b => b = q)) (fun _ _ _ iv _ => m - (intOf iv).toNat)
    case atStart => exact ⟨0, by omega, rfl, ho13, Tch.refl _ _⟩
    case round =>
      clear ho13
      obtain ⟨j, hj, rfl, hor, htr⟩ := hrel
      by_cases hlt : j < m
      · obtain ⟨ad, x, rfl, hab, hx, hc⟩ := (htr.reads hrsB hg13 (fun i hi e => by omega)).num hlt
        obtain ⟨x1, x2⟩ := h14 x (List.mem_of_getElem? hx)
        obtain ⟨t, ht⟩ : ∃ t, (k : Int) / suf xs (j + 1) % x = t := ⟨_, rfl⟩
        have htt := tup_at (k : Int) hx
        rw [ht] at htt
        have hcq : wr.cell? ⟨q, j, none⟩ = some (.int .i64 t) := by
          rw [hor.cellAt j (by omega)]
          unfold nums
          rw [List.getElem?_map, htt]
          rfl
        have ht0 : 0 ≤ t ∧ t < x := ⟨by rw [← ht]; exact Int.emod_nonneg _ (by omega), by rw [← ht]; exact Int.emod_lt_of_pos _ (by omega)⟩
        have hfq := hor.frozenAt j
        have hsr := htr.blk hs13 hq3
        obtain ⟨b0, b1⟩ := hsr.one
        have hnr := htr.blk hn13 hq4
        obtain ⟨b2, b3⟩ := hnr.one
        have HX := Lib.hid hx
        have HTT := Lib.hid htt
        have HOR := Lib.hid hor
        have HTR := Lib.hid htr
        have p0 : (0 : Int) ≤ (j : Int) := Int.natCast_nonneg _
        have p1 : (j : Int) < (m : Int) := by omega
        have p2 : decide ((0 : Int) ≤ (j : Int)) = true := decide_eq_true p0
        clear hx ht htt hor htr hsr hnr
        have hwr : IntKind.i64.wrap (t + 1) = t + 1 := IntWalk.i64_in _ (by omega)
        by_cases hup : t + 1 < x
        · obtain ⟨hV, hE⟩ := idx_Vup hsz (i := k) (by omega) hkP HTT.out HX.out hup
          have hsf := suf_pos hsz (j + 1)
          have hse : stepAt xs j = suf xs (j + 1) := by unfold stepAt suf; rw [HM.out, if_pos (by omega)]; rfl
          obtain ⟨D, hD⟩ : ∃ D, suf xs (j + 1) = D := ⟨_, rfl⟩
          rw [hD] at hV hsf hse
          have hix : ∀ W', Reads W' W'.heap.size 1 A1 m (nums xs) → Reads W' W'.heap.size 1 (some ⟨q, 0, none⟩) m (nums ((tupI xs k).set j (t + 1))) → Calls Try.prog 17 #[.agg #[.slice A1 m c1], .slice (some ⟨q, 0, none⟩) m m] W' fun e w' => e = .returned (.tuple #[.int .i64 (k + D), .int .i64 0]) ∧ Below W'.heap.size W' w' := fun W' h1 h2 => by
            have := index_any A1 (some ⟨q, 0, none⟩) m c1 m xs _ W' (by omega) h1 h2 hsz
            rw [hV, hE] at this; exact this
          have hst := fun W' h => step_any A1 m c1 xs j W' (by omega) hc1 h hsz
          rw [hse] at hst
          have HIX := Lib.hid hix
          have HST := Lib.hid hst
          clear hV hE hse hD hix hst
          gi_wp2_with fail
          refine wpIn_region_tail 9 (by kernel_rfl) (by kernel_rfl) (by kernel_rfl) ?_
          simp only [List.take_succ_cons, List.take_zero, List.drop_succ_cons, List.drop_zero]
          repeat still_step
          try refine wpStill_nil ?_
          gi_wp2_with fail
          have ho14 := (HOR.out.stored j (.int .i64 (t + 1))).1.drew
          have ho14 : (wr.setCell ⟨q, j, none⟩ (.int .i64 (t + 1))).drew.ownsRow w9.heap.size 3 1 (.slice (some ⟨q, 0, none⟩) m m) m (nums ((tupI xs k).set j (t + 1))) := by
            unfold nums at ho14 ⊢; rw [List.map_set]; exact ho14
          have htr14 : Tch w13 (wr.setCell ⟨q, j, none⟩ (.int .i64 (t + 1))).drew (fun b => b = q) := (HTR.out.put (p := ⟨q, j, none⟩) _ rfl).drew
          have hrn14 := (htr14.reads hrnB hg13 (fun i hi e => by omega)).more (show g6 ≤ (wr.setCell ⟨q, j, none⟩ (.int .i64 (t + 1))).drew.heap.size by have := htr14.size; omega)
          have hn14 := htr14.blk hn13 hq4
          refine (calls_round (HIX.out _ hrn14 (Reads.of_own ho14))).mono ?_
          rintro e w15 ⟨rfl, hb15⟩
          have hn15 := hn14.under hb15
          obtain ⟨c2, c3⟩ := hn15.one
          clear b0 b2 hcq hc
          gi_wp2_with fail
          refine (calls_round (HST.out _ (hrn14.lift hb15))).mono ?_
          rintro e w16 ⟨rfl, hb16⟩
          have ho16 := own_under ho14 (bto hb15 hb16)
          have hc16 : w16.cell? ⟨q, j, none⟩ = some (.int .i64 (t + 1)) := by
            rw [ho16.cellAt j (by omega)]
            unfold nums
            rw [List.getElem?_map, List.getElem?_set]
            have := (List.getElem?_eq_some_iff.1 HTT.out).1
            simp [this]
          have hf16 := ho16.frozenAt j
          have b16 : ((k : Int) + D != (k : Int) + D) = false := by simp
          have hkb : (k : Int) ≤ 1073741824 := by omega
          clear c2
          gi_wp2_with fail
          refine ⟨⟨j + 1, by omega, by go_num, ?_, ?_⟩, by simp [intOf]; omega⟩
          · have := (ho16.stored j (.int .i64 t)).1
            have e : (nums ((tupI xs k).set j (t + 1))).set j (.int .i64 t) = nums (tupI xs k) := by
              unfold nums
              rw [List.map_set, List.set_set]
              have h1 := (List.getElem?_eq_some_iff.1 HTT.out)
              obtain ⟨h1, h2⟩ := h1
              rw [← h2, ← List.map_set, List.set_getElem_self]
            rw [e] at this; exact this
          · have hb : Tch (wr.setCell ⟨q, j, none⟩ (.int .i64 (t + 1))).drew w16 (fun b => b = q) := Tch.of_below (bto hb15 hb16) _
            exact (htr14.trans hb fun _ _ h => h).put (p := ⟨q, j, none⟩) _ rfl
        · have hupF : decide (t + 1 < x) = false := decide_eq_false hup
          gi_wp2_with fail
          refine wpIn_region_tail 9 (by kernel_rfl) (by kernel_rfl) (by kernel_rfl) ?_
          simp only [List.take_succ_cons, List.take_zero, List.drop_succ_cons, List.drop_zero]
          repeat still_step
          try refine wpStill_nil ?_
          gi_wp2
          exact ⟨⟨j + 1, by omega, by go_num, HOR.out.drew, HTR.out.drew⟩, by simp [intOf]; omega⟩
      · obtain rfl : j = m := by omega
        have hL14 := htr.blk hL13 hq6
        obtain ⟨b0, b1⟩ := hL14.one
        gi_wp2_with fail
        have hqS : S q := (HS.out _).2 (.inl hq9)
        have htW : Tch W wr S := (Tch.of_below HBW.out S).trans (htr.mono (S' := S) fun i _ e => by rw [e]; exact hqS) fun _ _ h => h
        refine ⟨?_, ?_, ?_, ?_⟩
        · exact (KeepsFrom.of_grownBy (row := none) (only_of_below HBW.out none) (fun j e => by cases e)).trans ((keeps_row HO13.out htr).trans ((KeepsOthers.setCell _ _ _).from _))
        · exact htW.put (p := ⟨g6, 0, none⟩) _ ((HS.out _).2 (.inr rfl))
        · exact (HT.out.trans htW fun _ _ h => h).put (p := ⟨g6, 0, none⟩) _ ((HS.out _).2 (.inr rfl))
        · have := hL14.set_ 0 (.int .i64 ((k : Int) + 1))
          rw [List.length_append, HK.out]
          exact this
  case done =>
    rintro D ys W hD hlen ⟨hT, hL⟩ hK
    rw [hlen] at hL
    have hq := hT.blk hq9 hS2
    have ha := hT.blk ha9 hS5
    obtain ⟨e0, e1⟩ := ha.one
    obtain ⟨d0, d1⟩ := hL.one
    obtain ⟨q0, q1⟩ := hq.one
    have hDq : D ≠ g2 := by omega
    have hBW : Below w.heap.size w W := hB9.trans (hT.below (B := w.heap.size) (by have := hB9.size; omega) fun i hi => hSl i (by have := HB8.out; have := HG6.out; omega))
    have HK := Lib.hid hK
    clear hs9 hrs9 hq9 hb9 hrn9 hn9 ha9 hc9 hK hT hlen hrs9' hrn9'
    go_wp2_with fail
    have hfin : (W.setCell ⟨g2, 0, none⟩ (.bool true)).heap[D]? = some (.deferred (some [])) := (Below.heap_setCell W ⟨g2, 0, none⟩ _ D hDq).trans HK.out
    have hbk : Blk (W.setCell ⟨g2, 0, none⟩ (.bool true)) g2 4 #[.bool true] := hq.set_ 0 _
    have hBf : Below w.heap.size w (W.setCell ⟨g2, 0, none⟩ (.bool true)) := hBW.setCell (p := ⟨g2, 0, none⟩) (by have := HG2.out; simp; omega) _
    refine ⟨by simp, .inl ⟨_, _, rfl, run_takeDeferred hfin, ?_⟩⟩
    have hlast := res_cell hbk hDq hBf (by have := HB8.out; have := HG6.out; omega)
    exact ⟨_, (hlast _ rfl).1, rfl, (hlast #[undef, undef, .pointer (some ⟨g2, 0, none⟩)] rfl).2⟩
  case stop =>
    rintro D c pre W _ _ h _
    exact h.elim
theorem walk (a0 : Option Addr) (len0 cap0 : Nat) (z0 : List Int) (w : World) (w0 : IsRow .u8 w a0 len0 cap0 z0) :
    Calls Try.prog 7 #[.slice a0 len0 cap0] w fun e w' => e = .returned (.bool true) ∧ Below w.heap.size w w' := by
  obtain ⟨hr, hn, _, h8⟩ := row_reads w0
  exact core a0 len0 cap0 (z0.take len0) w hn hr (fun x hx => by have := bounds_u8 (h8 x hx); omega)

set_option maxRecDepth 100000 in
theorem lifted (os : Os) (started : os.Started) (H : Type) (enc : TypeId × Value → H) :
    ReturnsInHanded {} Try.checked os 7 .any (Rows.shapeTuplesSpec.pre6 enc Try.prog Try.f7 Rows.shapeTuplesRow.domain false) (Rows.shapeTuplesSpec.post enc Try.prog Try.f7 false true false false) := by
  refine returnsInHanded_of_change (C := Try.checked) own started (by kernel_rfl) Try.func7
    (ChangeSpec.witness6 (enc := enc) (C := Try.checked) false ⟨#[], #[.slice none 0 0], []⟩ 8 (by kernel_rfl) (by kernel_rfl) (by kernel_rfl) (by kernel_rfl)) ?_
  intro W base args ds gs before hval0 hW hcnd _
  have hval : ∀ (j : Nat) t v, Try.f7.params[j]? = some t → args[j]? = some v → Value.okWide Try.prog W .any base t v := hval0
  have hW' := hW
  obtain ⟨p, q, hA0, hV, rfl, hfz, hnd⟩ := hW
  have hA : DataW.TrodAll enc Try.prog W 0 (fun _ => true) true Try.f7.params.toList args.toList ds p := hA0
  rw [Try.params7] at hA hval
  obtain ⟨v0, vs0, d0, ds0, p0, q0, hargs, rfl, rfl, h0, r0⟩ := trodAll_cons hA
  obtain ⟨rfl, rfl, rfl⟩ := trodAll_nil r0
  obtain rfl : args = #[v0] := by cases args; simp_all
  obtain ⟨rfl, rfl⟩ := trodVars_none hV
  obtain ⟨a0, len0, cap0, rfl⟩ := okWide_slice Try.underlying22 (hval 0 22 v0 rfl rfl)
  have k0 := h0
  have lt0 : ∀ x ∈ p0, x.block < W.heap.size := by obtain ⟨m, hm⟩ := k0; exact DataW.trod_lt m _ _ _ hm
  obtain ⟨z0, w0⟩ : ∃ zs, IsRow .u8 W a0 len0 cap0 zs := by
    obtain ⟨fuel, hf⟩ := h0
    rcases open_ints Try.underlying22 Try.underlying5 (by kernel_rfl) hf with ⟨hcs, _⟩ | ⟨x, l, c, zs, hcs, _, hl, hm, hz, _, hcell, hwz⟩
    · simp [Value.cells] at hcs
      obtain ⟨rfl, rfl, rfl⟩ := hcs
      exact ⟨[], .inl ⟨rfl, rfl, rfl, rfl⟩⟩
    · simp [Value.cells] at hcs
      obtain ⟨rfl, rfl, rfl⟩ := hcs
      exact ⟨zs, .inr ⟨_, rfl, hl, hm, by simpa using hz, hcell, hwz⟩⟩
  clear hA0 hval0
  refine (walk a0 len0 cap0 z0 W w0).mono fun e W' ⟨he, bel⟩ => ?_
  subst he
  exact ⟨_, rfl, _, _, _, [], _, [], hW', trodAll_mk1 (shut_bool Try.underlying4 _), (trodAll_cons_mk (Below.trod laidOut (by kernel_rfl) (of_decide_eq_true (by kernel_rfl)) k0 bel lt0) trodAll_mk0), rfl, bel.frame _, fun h => by cases h⟩

theorem over : Rows.shapeTuplesRow.holds Try.pinned (OpenSpec.ofChange Rows.shapeTuplesSpec) :=
  OpenClaim.holds_of_wide 7 Try.f7 rfl rfl rfl rfl rfl rfl rfl ⟨rfl, rfl, rfl, rfl, rfl⟩ rfl rfl rfl rfl rfl (by kernel_rfl) Try.func7 (by kernel_rfl)
    (of_decide_eq_true (by kernel_rfl)) (by unfold Func.isWrapper; first | (rw [if_pos (by decide +kernel)]; kernel_rfl) | (rw [if_neg (by decide +kernel)]; exact ⟨rfl, rfl⟩))
    (fun os started H enc _ => lifted os started H enc)

theorem proved : Rows.ShapeTuplesSaid := over
end Go.Proofs.Ytepcgokogiphhaa.shapeTuples

/- For every input ShapeSteps returns true; its arguments read as before. No condition. -/
import Derived.Test.YtepcgokogiphhaaRows
import Derived.WalkKit
import Derived.ProofKit
import Derived.OpenShut
import Derived.Test.YtepcgokogiphhaaShapeTwo
import Derived.Deep.RegionHeld3
import Derived.Deep.DrawnRows
import Derived.ShutString
import Derived.ChangeOld
import Derived.Below
namespace Go.Proofs.Ytepcgokogiphhaa.shapeSteps
open Go.Proofs.Ytepcgokogiphhaa.shp Go.Proofs.Ytepcgokogiphhaa.words
open Go.ChangeShapes Go.WideShapes Go.ChangeAt Go.RowKit
open Go.ChangeMaps (open_string shut_string)
set_option linter.unusedVariables false

theorem own : ownKnob Try.prog.godebug = none := by kernel_rfl
theorem laidOut : laidOutB Try.prog = true := by kernel_rfl

def IsRow (k : IntKind) (w : World) (a : Option Addr) (len cap : Nat) (zs : List Int) : Prop :=
  (a = none ∧ len = 0 ∧ cap = 0 ∧ zs = []) ∨
  ∃ x, a = some x ∧ len ≤ cap ∧ cap ≤ maxLen ∧ zs.length = cap ∧ (∀ i, i < zs.length → w.cell? (x.add i) = some (.int k (zs.getD i 0))) ∧ ∀ n ∈ zs, (Lit.int k n).wf = true

theorem row_reads {k : IntKind} {w : World} {a : Option Addr} {len cap : Nat} {zs : List Int} (h : IsRow k w a len cap zs) :
    Reads w w.heap.size 1 a len ((zs.take len).map (Value.int k)) ∧ len ≤ 9223372036854775807 ∧ len ≤ cap ∧ ∀ x ∈ zs.take len, (Lit.int k x).wf = true := by
  rcases h with ⟨rfl, rfl, rfl, rfl⟩ | ⟨x, rfl, hl, hm, hz, hcell, hwz⟩
  · exact ⟨by simpa using (Reads.none_ (w := w) (B := w.heap.size) (size := 1) (A := none)), by omega, by omega, by simp⟩
  · refine ⟨⟨by simp; omega, fun h0 => ⟨x, rfl, ?_, fun j u hu => ?_⟩⟩, by unfold maxLen at hm; omega, hl, fun x hx => hwz x (List.mem_of_mem_take hx)⟩
    · have := World.block_lt_of_cell? w _ (hcell 0 (by omega))
      rw [block_of_add] at this; exact this
    · rw [List.getElem?_map, List.getElem?_take] at hu
      split at hu
      · cases hy : zs[j]? with
        | none => rw [hy] at hu; simp at hu
        | some y =>
          rw [hy] at hu
          simp at hu
          subst hu
          have hl := (List.getElem?_eq_some_iff.1 hy).1
          rw [hcell j hl]; simp [hy]
      · simp at hu
theorem emod_step (i P x : Int) (h0 : 0 ≤ i) (hP : 1 ≤ P) (hx : 1 ≤ x) : i % (x * P) = i % P + i / P % x * P := by
  obtain ⟨i, rfl⟩ := Int.eq_ofNat_of_zero_le h0
  obtain ⟨P, rfl⟩ := Int.eq_ofNat_of_zero_le (show 0 ≤ P by omega)
  obtain ⟨x, rfl⟩ := Int.eq_ofNat_of_zero_le (show 0 ≤ x by omega)
  have := Nat.mod_mul (x := i) (a := P) (b := x)
  rw [Int.mul_comm (x : Int), Int.mul_comm _ (P : Int)]
  exact_mod_cast this
theorem prod_drop (xs : List Int) (j : Nat) (x : Int) (h : xs[j]? = some x) : prodI (xs.drop j) = x * prodI (xs.drop (j + 1)) := by
  have hl := (List.getElem?_eq_some_iff.1 h).1
  rw [List.drop_eq_getElem_cons hl, prodI_cons]
  congr 1
  rw [List.getElem?_eq_getElem hl] at h; exact Option.some.inj h
theorem suf_snoc (xs : List Int) (i : Int) (j : Nat) (x : Int) (hz : Szs xs) (h0 : 0 ≤ i) (h : xs[j]? = some x) :
    i % prodI (xs.drop j) = i % prodI (xs.drop (j + 1)) + i / prodI (xs.drop (j + 1)) % x * prodI (xs.drop (j + 1)) := by
  rw [prod_drop xs j x h]
  exact emod_step i _ x h0 (szs_prod (szs_drop hz _)).1 (hz.2 x (List.mem_of_getElem? h)).1
attribute [local go_sem ↓] Go.wp_at_zero Go.wp_at_succ
set_option maxRecDepth 100000 in
set_option maxHeartbeats 1600000 in
theorem core (A : Option Addr) (n cap : Nat) (l : List Int) (i : Int) (w : World) (hn : n ≤ 9223372036854775807) (hr : Reads w w.heap.size 1 A n (bytes8 l)) (h8 : ∀ x ∈ l, 0 ≤ x ∧ x < 256) (i0 : 0 ≤ i) (i1 : i < 65536) :
    Calls Try.prog 3 #[.slice A n cap, .int .u16 i] w fun e w' => e = .returned (.bool true) ∧ Below w.heap.size w w' := by
  obtain ⟨hsz, hl3, h14⟩ := small_szs l
  obtain ⟨xs, hxs⟩ : ∃ xs, xs = smallI l := ⟨_, rfl⟩
  have hsm := fun wx hx => small_any A n cap l wx hn hx h8
  rw [← hxs] at hsm hsz hl3 h14
  have hpr := szs_small hl3 h14
  clear hxs
  have hP := szs_prod hsz
  obtain ⟨P, hPe⟩ : ∃ P, prodI xs = P := ⟨_, rfl⟩
  rw [hPe] at hP hpr
  have HPE := Lib.hid hPe
  clear hPe
  obtain ⟨K, hK, K0, K1⟩ : ∃ K, i.tmod P = K ∧ 0 ≤ K ∧ K < P := ⟨_, rfl, by rw [Int.tmod_eq_emod_of_nonneg i0]; exact Int.emod_nonneg _ (by omega), by rw [Int.tmod_eq_emod_of_nonneg i0]; exact Int.emod_lt_of_pos _ (by omega)⟩
  obtain ⟨m, hm⟩ : ∃ m, xs.length = m := ⟨_, rfl⟩
  have HM := Lib.hid hm
  rw [hm] at hl3
  clear hm
  go_enter Try.func3, Try.ntmps3
  go_wp2_with fail
  refine (awake_any w).mono ?_
  rintro e w1 ⟨rfl, hb1⟩
  have hr1 := hr.lift hb1
  go_wp2_with fail
  refine (hsm w1 hr1).mono ?_
  rintro e w2 ⟨As, cs, rfl, hown2, hb2⟩
  rw [HM.out] at hown2 ⊢
  clear hsm hr hr1
  go_wp2_with fail
  have hrs := Reads.of_own hown2
  refine (new_yes As m cs xs w2 (by omega) hrs hsz (by rw [HPE.out]; exact hpr.2)).mono ?_
  rintro e w3 ⟨A1, c1, rfl, hown3, hc1, hb3⟩
  have hB3 : Below w.heap.size w w3 := bto (bto hb1 hb2) hb3
  have hrs3 := hrs.lift hb3
  have hrn3 := Reads.of_own hown3
  clear hown2 hown3 hrs
  have hbx : Blk (w3.alloc (.cells #[.slice A1 m c1] 28)) w3.heap.size 28 #[.slice A1 m c1] := Blk.new _ _ _
  have hrs4 := (hrs3.alloc (Nat.le_refl _) (.cells #[.slice A1 m c1] 28)).more (B' := (w3.alloc (.cells #[.slice A1 m c1] 28)).heap.size) (by simp)
  have hrn4 := (hrn3.alloc (Nat.le_refl _) (.cells #[.slice A1 m c1] 28)).more (B' := (w3.alloc (.cells #[.slice A1 m c1] 28)).heap.size) (by simp)
  have hB4 := bnew hB3 (.cells #[.slice A1 m c1] 28)
  clear hrs3 hrn3
  go_wp2_with fail
  refine (count_any A1 m c1 xs _ hrn4 hsz).mono ?_
  rintro e w5 ⟨rfl, hb5⟩
  rw [HPE.out]
  obtain ⟨hc5, hf5⟩ := Blk.at_ hbx hb5
  have hrn5 := hrn4.lift hb5
  have hrs5 := hrs4.lift hb5
  have hB5 := bto hB4 hb5
  have hbx5 := Blk.under hbx hb5
  clear hrs4 hrn4 hbx hb5 hB4
  go_wp2_with fail
  refine (tuple_any A1 m c1 xs K _ hc1 hrn5 hsz).mono ?_
  rintro e w6 ⟨hb6, h6⟩
  obtain ⟨g, rfl, hown6⟩ : ∃ g, e = .returned (.tuple #[.slice (some ⟨g, 0, none⟩) m m, .int .i64 0]) ∧ w6.ownsRow w5.heap.size 3 1 (.slice (some ⟨g, 0, none⟩) m m) m (nums (tupI xs K)) := by
    rcases h6 with ⟨h, _⟩ | ⟨_, g, h, ho⟩
    · exact absurd ⟨K0, by rw [HPE.out]; exact K1⟩ h
    · rw [HM.out] at h ho; exact ⟨g, h, ho⟩
  have hrt6 := Reads.of_own hown6
  have hrn6 := hrn5.lift hb6
  have hrs6 := hrs5.lift hb6
  have hB6 := bto hB5 hb6
  have hbx6 := Blk.under hbx5 hb6
  clear hrs5 hrn5 hbx5 hb6 hB5 hown6 h6 hc5 hf5
  go_wp2_with fail
  go_loopw [11, 12, 13] (fun s st p wr => ∃ (p0 : Int) (j : Nat), -1 ≤ p0 ∧ p0 < m ∧ p = .int .i64 p0 ∧ p0 + 1 = j ∧ s = .int .i64 (K % prodI (xs.drop j)) ∧ st = .int .i64 (prodI (xs.drop j)) ∧ Below w6.heap.size w6 wr) (fun _ _ p _ => (intOf p + 1).toNat)
  case atStart =>
    refine ⟨(m : Int) - 1, m, by omega, by omega, rfl, by omega, ?_, ?_, Below.refl _ _⟩
    · rw [List.drop_of_length_le (by rw [HM.out]; omega)]; simp [prodI]
    · rw [List.drop_of_length_le (by rw [HM.out]; omega)]; simp [prodI]
  case round =>
    obtain ⟨p0, j, p1, p2, rfl, hj, rfl, rfl, hbr⟩ := hrel
    have hrtr := hrt6.lift hbr
    have hrsr := hrs6.lift hbr
    have hrnr := hrn6.lift hbr
    have hbxr := Blk.under hbx6 hbr
    clear hrt6 hrs6 hrn6 hbx6
    by_cases h0 : 0 ≤ p0
    · obtain ⟨q, rfl⟩ : ∃ q : Nat, p0 = q := ⟨p0.toNat, by omega⟩
      obtain rfl : j = q + 1 := by omega
      have hq : q < m := by omega
      obtain ⟨ad, x, rfl, _, hx, hcx⟩ := hrsr.num hq
      obtain ⟨at_, t, hat, _, ht, hct⟩ := hrtr.num hq
      obtain rfl := Option.some.inj hat
      rw [tup_get K hx] at ht
      have HS := Lib.hid (suf_snoc xs K q x hsz K0 hx)
      have HD := Lib.hid (prod_drop xs q x hx)
      obtain ⟨x1, x2⟩ := h14 x (List.mem_of_getElem? hx)
      have hD := szs_prod (szs_drop hsz (q + 1))
      have hst := fun wx hrx => step_any A1 m c1 xs q wx (by omega) hc1 hrx hsz
      have hsi := fun wx hrx => size_any A1 m c1 xs q wx (by omega) hrx
      have hse : stepAt xs q = prodI (xs.drop (q + 1)) := by unfold stepAt; rw [if_pos (by rw [HM.out]; omega)]; rfl
      have hsie : sizeAt xs q = x := by unfold sizeAt; rw [if_pos (by omega)]; simp [hx]
      rw [hse] at hst
      rw [hsie] at hsi
      have HT := Lib.hid (Option.some.inj ht)
      obtain ⟨hcb, _⟩ := Blk.one hbxr
      clear hx ht hse hsie hat hj
      obtain ⟨D, hDe⟩ : ∃ D, prodI (xs.drop (q + 1)) = D := ⟨_, rfl⟩
      rw [hDe] at hst hD HT HS HD
      have HDE := Lib.hid hDe
      obtain ⟨U, hU⟩ : ∃ U, K % D = U := ⟨_, rfl⟩
      have hU0 : 0 ≤ U ∧ U < D := ⟨by rw [← hU]; exact Int.emod_nonneg _ (by omega), by rw [← hU]; exact Int.emod_lt_of_pos _ (by omega)⟩
      have HU := Lib.hid hU
      rw [hDe, hU]
      clear hDe hU
      have i0' : (0 : Int) ≤ (q : Int) := Int.natCast_nonneg _
      have i1' : (q : Int) < (m : Int) := by omega
      have H12 : Hid (∀ w', Below wr.heap.size wr w' → Below wr.heap.size wr w' ∧ w'.cell? ⟨w3.heap.size, 0, none⟩ = some (.slice A1 m c1) ∧ w'.cell? (ad.add q) = some (.int .i64 x)) :=
        fun w' hb => ⟨hb, (Blk.at_ hbxr hb).1, (hb.cell (by have := World.block_lt_of_cell? wr _ hcx; exact this)).trans hcx⟩
      have hct' : ∀ w', Below wr.heap.size wr w' → w'.cell? ⟨g, q, none⟩ = some (.int .i64 t) := fun w' hb => by
        have e : (Addr.add ⟨g, 0, none⟩ q) = ⟨g, q, none⟩ := by unfold Addr.add; split <;> simp_all
        rw [e] at hct
        exact (hb.cell (by have := World.block_lt_of_cell? wr _ hct; exact this)).trans hct
      have HCT := Lib.hid hct'
      have ht0 : 0 ≤ t ∧ t < 4 := by rw [← HT.out]; exact ⟨Int.emod_nonneg _ (by omega), by have := Int.emod_lt_of_pos (K / D) (show 0 < x by omega); omega⟩
      have hm1 : 0 ≤ t * D ∧ t * D ≤ 4 * 1073741824 := ⟨Int.mul_nonneg ht0.1 (by omega), Int.mul_le_mul (by omega) hD.2 (by omega) (by omega)⟩
      have hm2 : 0 ≤ D * x ∧ D * x ≤ 1073741824 * 4 := ⟨Int.mul_nonneg (by omega) (by omega), Int.mul_le_mul hD.2 x2 (by omega) (by omega)⟩
      clear hct hct' hcb
      go_wp2_with fail
      go_region_held3 (fun w' => Below wr.heap.size wr w' ∧ w'.cell? ⟨w3.heap.size, 0, none⟩ = some (.slice A1 m c1) ∧ w'.cell? (ad.add q) = some (.int .i64 x))
        (first | exact H12.out _ (Below.refl _ _).drew | exact H12.out _ (bto (‹Below wr.heap.size wr _ ∧ _›).1 hbn))
        (first
          | (go_at_call 13; refine (hst _ ?_).mono ?_; (exact hrnr.lift (‹Below wr.heap.size wr _ ∧ _›).1); rintro e w' ⟨rfl, hbn⟩)
          | (go_at_call 14; refine (hsi _ ?_).mono ?_; (exact hrnr.lift (‹Below wr.heap.size wr _ ∧ _›).1); rintro e w' ⟨rfl, hbn⟩))
      obtain ⟨hbz, -, hcz⟩ := ‹Below wr.heap.size wr _ ∧ _ ∧ _›
      have hctz := HCT.out _ hbz
      clear hcx
      go_wp2
      go_roundw
      case rel =>
        refine ⟨(q : Int) - 1, q, by omega, by omega, rfl, by omega, ?_, ?_, bto hbr hbz⟩
        · rw [HS.out, HU.out, HT.out]
        · rw [HD.out, Int.mul_comm]
      case measure => simp [intOf]
    · obtain rfl : j = 0 := by omega
      rw [List.drop_zero, HPE.out, show K % P = K from Int.emod_eq_of_lt K0 K1]
      obtain ⟨hcb, _⟩ := Blk.one hbxr
      have hcn := count_any A1 m c1 xs _ hrnr hsz
      rw [HPE.out] at hcn
      go_wp2_with (first
        | (go_at_call 11; (with_reducible refine (hcn).mono ?_); rintro e w' ⟨rfl, hbn⟩))
      go_ret
      exact ⟨rfl, bto (bto hB6 hbr) hbn⟩
theorem walk (a0 : Option Addr) (len0 cap0 : Nat) (z0 : List Int) (a1 : Int) (w : World) (w0 : IsRow .u8 w a0 len0 cap0 z0) (w1 : (Lit.int .u16 a1).wf = true) :
    Calls Try.prog 3 #[.slice a0 len0 cap0, .int .u16 a1] w fun e w' => e = .returned (.bool true) ∧ Below w.heap.size w w' := by
  obtain ⟨hr, hn, _, h8⟩ := row_reads w0
  have hi := bounds_u16 w1
  exact core a0 len0 cap0 (z0.take len0) a1 w hn hr (fun x hx => by have := bounds_u8 (h8 x hx); omega) hi.1 (by omega)

set_option maxRecDepth 100000 in
theorem lifted (os : Os) (started : os.Started) (H : Type) (enc : TypeId × Value → H) :
    ReturnsInHanded {} Try.checked os 3 .any (Rows.shapeStepsSpec.pre6 enc Try.prog Try.f3 Rows.shapeStepsRow.domain false) (Rows.shapeStepsSpec.post enc Try.prog Try.f3 false true false false) := by
  refine returnsInHanded_of_change (C := Try.checked) own started (by kernel_rfl) Try.func3
    (ChangeSpec.witness6 (enc := enc) (C := Try.checked) false ⟨#[], #[.slice none 0 0, .int .u16 0], []⟩ 8 (by kernel_rfl) (by kernel_rfl) (by kernel_rfl) (by kernel_rfl)) ?_
  intro W base args ds gs before hval0 hW hcnd _
  have hval : ∀ (j : Nat) t v, Try.f3.params[j]? = some t → args[j]? = some v → Value.okWide Try.prog W .any base t v := hval0
  have hW' := hW
  obtain ⟨p, q, hA0, hV, rfl, hfz, hnd⟩ := hW
  have hA : DataW.TrodAll enc Try.prog W 0 (fun _ => true) true Try.f3.params.toList args.toList ds p := hA0
  rw [Try.params3] at hA hval
  obtain ⟨v0, vs0, d0, ds0, p0, q0, hargs, rfl, rfl, h0, r0⟩ := trodAll_cons hA
  obtain ⟨v1, vs1, d1, ds1, p1, q1, rfl, rfl, rfl, h1, r1⟩ := trodAll_cons r0
  obtain ⟨rfl, rfl, rfl⟩ := trodAll_nil r1
  obtain rfl : args = #[v0, v1] := by cases args; simp_all
  obtain ⟨rfl, rfl⟩ := trodVars_none hV
  obtain ⟨a0, len0, cap0, rfl⟩ := okWide_slice Try.underlying22 (hval 0 22 v0 rfl rfl)
  have k0 := h0
  have lt0 : ∀ x ∈ p0, x.block < W.heap.size := by obtain ⟨m, hm⟩ := k0; exact DataW.trod_lt m _ _ _ hm
  obtain ⟨z0, w0⟩ : ∃ zs, IsRow .u8 W a0 len0 cap0 zs := by
    obtain ⟨fuel, hf⟩ := h0
    rcases open_ints Try.underlying22 Try.underlying5 (by kernel_rfl) hf with ⟨hcs, _⟩ | ⟨x, l, c, zs, hcs, _, hl, hm, hz, _, hcell, hwz⟩
    · simp [Value.cells] at hcs
      obtain ⟨rfl, rfl, rfl⟩ := hcs
      exact ⟨[], .inl ⟨rfl, rfl, rfl, rfl⟩⟩
    · simp [Value.cells] at hcs
      obtain ⟨rfl, rfl, rfl⟩ := hcs
      exact ⟨zs, .inr ⟨_, rfl, hl, hm, by simpa using hz, hcell, hwz⟩⟩
  obtain ⟨a1, rfl, rfl, rfl, w1⟩ := open_int Try.underlying23 (hval 1 23 v1 rfl rfl) h1
  clear hA0 hval0
  refine (walk a0 len0 cap0 z0 a1 W w0 w1).mono fun e W' ⟨he, bel⟩ => ?_
  subst he
  exact ⟨_, rfl, _, _, _, [], _, [], hW', trodAll_mk1 (shut_bool Try.underlying4 _), (trodAll_cons_mk (Below.trod laidOut (by kernel_rfl) (of_decide_eq_true (by kernel_rfl)) k0 bel lt0) (trodAll_cons_mk (shut_int Try.underlying23 w1) trodAll_mk0)), rfl, bel.frame _, fun h => by cases h⟩

theorem over : Rows.shapeStepsRow.holds Try.pinned (OpenSpec.ofChange Rows.shapeStepsSpec) :=
  OpenClaim.holds_of_wide 3 Try.f3 rfl rfl rfl rfl rfl rfl rfl ⟨rfl, rfl, rfl, rfl, rfl⟩ rfl rfl rfl rfl rfl (by kernel_rfl) Try.func3 (by kernel_rfl)
    (of_decide_eq_true (by kernel_rfl)) (by unfold Func.isWrapper; first | (rw [if_pos (by decide +kernel)]; kernel_rfl) | (rw [if_neg (by decide +kernel)]; exact ⟨rfl, rfl⟩))
    (fun os started H enc _ => lifted os started H enc)

theorem proved : Rows.ShapeStepsSaid := over
end Go.Proofs.Ytepcgokogiphhaa.shapeSteps

/- Contracts of the weights: an object behind a pointer that holds a slice of floats. -/
import Derived.Test.YtnnlkjbnonkjmaaFloAwake
import Derived.Test.YtnnlkjbnonkjmaaOpen
namespace Go.Proofs.Ytnnlkjbnonkjmaa.flo
open Go.ChangeShapes Go.WideShapes Go.ChangeAt Go.RowKit Go.Proofs.Ytnnlkjbnonkjmaa.words
set_option linter.unusedVariables false
/-- block g is a Weights that holds fs; all of it lies from block B on; R is its row's block, if there is one -/
def Wt (w : World) (B g : Nat) (R : Option Nat) (fs : List Nat) : Prop :=
  B ≤ g ∧ ∃ A c, Blk w g 57 #[.slice A fs.length c] ∧ w.ownsRow B 24 1 (.slice A fs.length c) fs.length (flts fs) ∧ (Value.slice A fs.length c).ownBlock = R
def Tw (g : Nat) (R : Option Nat) (k : Nat) : Prop := k = g ∨ some k = R
theorem infoF : (Try.prog.info? 24).map (fun i => (i.zero, i.size, i.bytes)) = some (some (.float .f64 0), 1, 8) := by kernel_rfl
theorem Wt.row_ne {w : World} {B g : Nat} {R : Option Nat} {fs : List Nat} (h : Wt w B g R fs) : R ≠ some g := by
  obtain ⟨_, A, c, hb, ho, rfl⟩ := h
  exact own_blk_ne ho hb (by decide)
def lenAt (w : World) (g : Nat) : Int := match w.cell? ⟨g, 0, none⟩ with | some (.slice _ k _) => (k : Int) | _ => 0
theorem lenAt_blk {w : World} {g : Nat} {t : TypeId} {A : Option Addr} {k c : Nat} (h : Blk w g t #[.slice A k c]) : lenAt w g = k := by
  unfold lenAt; rw [h.cell 0]; rfl
theorem grow_any (w : World) (B g : Nat) (R : Option Nat) (fs : List Nat) (n : Int) (h : Wt w B g R fs) (hB : B ≤ w.heap.size) (hn : n ≤ 1000000) (hf : fs.length ≤ 1000000) :
    Calls Try.prog 21 #[.pointer (some ⟨g, 0, none⟩), .int .i64 n] w fun e w' => e = .returned (.tuple #[]) ∧ (∃ R', Wt w' B g R' (fs ++ List.replicate (n.toNat - fs.length) 4607182418800017408) ∧ (R' = R ∨ ∃ k, R' = some k ∧ w.heap.size ≤ k)) ∧ Tch w w' (Tw g R) := by
  obtain ⟨i0, hi0, hz0, hz1, hz2⟩ := info_parts infoF
  go_enter Try.func21, Try.ntmps21
  go_wp2_with fail
  go_loopw [5] (fun _ wr => ∃ (i : Nat) (R' : Option Nat), (i : Int) ≤ max (n - fs.length) 0 ∧ Wt wr B g R' (fs ++ List.replicate i 4607182418800017408) ∧ (R' = R ∨ ∃ k, R' = some k ∧ w.heap.size ≤ k) ∧ Tch w wr (Tw g R)) (fun _ wr => (n - lenAt wr g).toNat)
  case atStart => exact ⟨0, R, by omega, by simpa using h, .inl rfl, Tch.refl _ _⟩
  case round =>
    obtain ⟨i, R', hi, ⟨hBg, A, c, hb, ho, hR⟩, hR', ht⟩ := hrel
    obtain ⟨k, hk⟩ : ∃ k, (fs ++ List.replicate i 4607182418800017408).length = k := ⟨_, rfl⟩
    have hki : k = fs.length + i := by rw [← hk]; simp
    rw [hk] at hb ho hR
    obtain ⟨hc, hf⟩ := Blk.one hb
    by_cases hlt : (k : Int) < n
    · have HK := Lib.hid hki
      have HR := Lib.hid hR
      clear hki hR
      have ho1 := ho.alloc (.cells #[.float .f64 4607182418800017408] 24)
      have hr1 : Reads (wr.alloc (.cells #[.float .f64 4607182418800017408] 24)) (wr.alloc (.cells #[.float .f64 4607182418800017408] 24)).heap.size 1 (some ⟨wr.heap.size, 0, none⟩) 1 (flts [4607182418800017408]) := reads_block (t := 24) (heap_alloc_new _ _) rfl
      have hbs := ht.size
      have hgl := hb.lt
      have hne : (Value.slice A k c).ownBlock ≠ some g := own_blk_ne ho hb (by decide)
      clear hk
      go_wp2_with (first
        | (at_builtin; refine wpList_append_any _ rfl (.tmp 19) (.tmp 20) _ rfl B 24 i0 _ 1 8 Try.underlying22 hi0 hz0 hz1 hz2 rfl (by omega) _ k _ rfl ho1 (wr.alloc (.cells #[.float .f64 4607182418800017408] 24)).heap.size (some ⟨wr.heap.size, 0, none⟩) 1 1 (flts [4607182418800017408]) rfl hr1 flts_one (by simp only [maxLen]; omega) (by omega) (by simp; omega) ?_; intro v1 w1 hown hg1 hat; obtain ⟨A2, c2, rfl⟩ := own_shape hown; have hg2 : (wr.alloc (.cells #[.float .f64 4607182418800017408] 24)).grownBy w1 (Value.slice A k c).ownBlock := hg1; have hb1 : Blk w1 g 57 #[.slice A k c] := (hb.alloc _).grown hg2 (Ne.symm hne); obtain ⟨hc1, hf1⟩ := Blk.one hb1)
        | fail)
      go_roundw
      case rel =>
        have hne2 : (Value.slice A2 (k + 1) c2).ownBlock ≠ some g := own_blk_ne hown hb1 (by decide)
        have hset : Tch w1 (w1.setCell ⟨g, 0, none⟩ (.slice A2 (k + 1) c2)) (· = g) := Tch.set_ w1 _ rfl
        have hl : (fs ++ List.replicate (i + 1) 4607182418800017408).length = k + 1 := by rw [HK.out]; simp; omega
        have hlist : flts (fs ++ List.replicate i 4607182418800017408) ++ flts [4607182418800017408] = flts (fs ++ List.replicate (i + 1) 4607182418800017408) := by
          unfold flts; rw [← List.map_append, List.append_assoc]; congr 2; rw [List.replicate_succ']
        refine ⟨i + 1, (Value.slice A2 (k + 1) c2).ownBlock, by have := HK.out; omega, ⟨hBg, A2, c2, ?_, ?_, ?_⟩, ?_, ?_⟩
        · rw [hl]; exact hb1.set_ 0 _
        · rw [hl, ← hlist]; exact hset.own hown fun q hq e => hne2 (by rw [hq, e])
        · rw [hl]
        · rcases hat with e | e
          · rcases hR' with h1 | ⟨q, h1, h2⟩
            · exact .inl (e.trans (HR.out.trans h1))
            · exact .inr ⟨q, e.trans (HR.out.trans h1), h2⟩
          · exact .inr ⟨_, e, by simp; omega⟩
        · refine ht.trans (((Tch.of_below (bone wr _) (fun q => q = g ∨ some q = R')).trans (Tch.of_grown hg2 (S := fun q => q = g ∨ some q = R') fun q _ hq => .inr (by rw [hq]; exact HR.out)) fun _ _ x => x).trans hset fun q _ x => .inl x) fun q hq x => ?_
          rcases x with x | x
          · exact .inl x
          · rcases hR' with h1 | ⟨r, h1, h2⟩
            · exact .inr (x.trans h1)
            · rw [h1] at x; injection x with x; omega
      case measure =>
        rw [lenAt_blk hb, lenAt_blk (hb1.set_ 0 _)]; omega
    · have hre : n.toNat - fs.length = i := by omega
      have HE := Lib.hid hre
      have HK := Lib.hid hk
      clear hre hk hki
      go_wp2
      go_end0
      rw [HE.out]
      exact ⟨rfl, ⟨R', ⟨hBg, A, c, by rw [HK.out]; exact hb, by rw [HK.out]; exact ho, by rw [HK.out]; exact hR⟩, hR'⟩, ht⟩
theorem new_any (n : Int) (w : World) (hn : n ≤ 1000000) :
    Calls Try.prog 19 #[.int .i64 n] w fun e w' => (∃ g R, e = .returned (.pointer (some ⟨g, 0, none⟩)) ∧ Wt w' w.heap.size g R (List.replicate n.toNat 4607182418800017408)) ∧ Below w.heap.size w w' := by
  have hb : Blk (w.alloc (.cells #[.slice none 0 0] 57)) w.heap.size 57 #[.slice none 0 0] := Blk.new _ _ _
  have hw : Wt (w.alloc (.cells #[.slice none 0 0] 57)) w.heap.size w.heap.size none [] := ⟨Nat.le_refl _, none, 0, hb, World.ownsRow_nil _ _ _ _, rfl⟩
  go_enter Try.func19, Try.ntmps19
  go_wp2_with fail
  refine (grow_any _ _ _ none [] n hw (by simp) hn (by simp)).mono ?_
  rintro e w1 ⟨rfl, ⟨R', hw1, hR⟩, ht⟩
  rw [List.nil_append, List.length_nil, Nat.sub_zero] at hw1
  go_wp2
  go_ret
  exact ⟨⟨_, R', rfl, hw1⟩, (bone _ _).trans (ht.below (by simp) (fun i hi h => h.elim (fun h => by omega) (fun h => by cases h)))⟩

theorem len_any (w : World) (B g : Nat) (R : Option Nat) (fs : List Nat) (h : Wt w B g R fs) :
    Calls Try.prog 23 #[.pointer (some ⟨g, 0, none⟩)] w fun e w' => e = .returned (.int .i64 fs.length) ∧ w = w' := by
  obtain ⟨hBg, A, c, hb, ho, hR⟩ := h
  obtain ⟨hc, hf⟩ := Blk.one hb
  go_enter Try.func23, Try.ntmps23
  go_wp2
  go_ret
  exact ⟨rfl, rfl⟩
theorem len_nil (w : World) : Calls Try.prog 23 #[.pointer none] w fun e w' => e = .returned (.int .i64 0) ∧ w = w' := by
  go_enter Try.func23, Try.ntmps23
  go_wp2
  go_ret
  exact ⟨rfl, rfl⟩
theorem of_nil (j : Int) (w : World) : Calls Try.prog 25 #[.pointer none, .int .i64 j] w fun e w' => e = .returned (.float .f64 0) ∧ w = w' := by
  by_cases h : j < 0
  · go_enter Try.func25, Try.ntmps25
    go_wp2
    go_ret
    exact ⟨rfl, rfl⟩
  · go_enter Try.func25, Try.ntmps25
    go_wp2_with (first
      | (go_at_call 23; (with_reducible refine (len_nil _).mono ?_); rintro e w' ⟨rfl, rfl⟩))
    go_ret
    exact ⟨rfl, rfl⟩
theorem bump_nil (j : Int) (by_ : Nat) (w : World) : Calls Try.prog 22 #[.pointer none, .int .i64 j, .float .f64 by_] w fun e w' => e = .returned (.int .i64 2) ∧ w = w' := by
  go_enter Try.func22, Try.ntmps22
  go_wp2
  go_ret
  exact ⟨rfl, rfl⟩
theorem decay_nil (by_ : Nat) (w : World) : Calls Try.prog 20 #[.pointer none, .float .f64 by_] w fun e w' => e = .returned (.tuple #[]) ∧ w = w' := by
  go_enter Try.func20, Try.ntmps20
  go_wp2_with (first
    | (go_at_call 23; (with_reducible refine (len_nil _).mono ?_); rintro e w' ⟨rfl, rfl⟩))
  go_loop [7] (fun i => i = .int .i64 0) (fun _ => 0)
  case atStart => rfl
  case round =>
    obtain rfl := hrel
    go_wp2
    go_end0
    exact ⟨rfl, rfl⟩
theorem grow_nil (n : Int) (w : World) : Calls Try.prog 21 #[.pointer none, .int .i64 n] w fun e w' => e = .returned (.tuple #[]) ∧ w = w' := by
  go_enter Try.func21, Try.ntmps21
  go_wp2_with fail
  refine wp_loop_rounds 1 ?_
  rw [rounds_succ]
  go_wp2
  first
    | exact ⟨rfl, rfl⟩
    | (go_end0; exact ⟨rfl, rfl⟩)
theorem sum_nil (A : Option Addr) (j : Int) (b : Nat) (w : World) (hb : Blk w b 3 #[.int .i64 j]) : Calls Try.prog 24 #[.pointer none, .slice (some ⟨b, 0, none⟩) 1 1] w fun e w' => e = .returned (.float .f64 0) ∧ w = w' := by
  obtain ⟨hc, _⟩ := Blk.one hb
  have ha : floatBits .add .f64 0 0 = some 0 := by decide
  have hadd := fun w => run_float_arith (P := Try.prog) w .add 24 .f64 0 0 0 ha
  go_enter Try.func24, Try.ntmps24
  go_wp2_with fail
  go_loop [5, 10] (fun s iv => s = .float .f64 0 ∧ ∃ i : Nat, i ≤ 1 ∧ iv = .int .i64 i) (fun _ iv => 1 - (intOf iv).toNat)
  case atStart => exact ⟨rfl, 0, by omega, rfl⟩
  case round =>
    obtain ⟨rfl, i, hi, rfl⟩ := hrel
    by_cases h0 : i < 1
    · obtain rfl : i = 0 := by omega
      go_wp2_with (first
        | (go_at_call 25; (with_reducible refine (of_nil _ _).mono ?_); rintro e w' ⟨rfl, rfl⟩))
      go_round
      case rel => exact ⟨rfl, 1, by omega, rfl⟩
      case measure => simp [intOf]
    · go_wp2
      go_ret
      exact ⟨rfl, rfl⟩
end Go.Proofs.Ytnnlkjbnonkjmaa.flo

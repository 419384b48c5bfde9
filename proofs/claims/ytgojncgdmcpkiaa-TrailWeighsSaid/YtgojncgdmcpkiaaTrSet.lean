/- A trail's Set. -/
import Derived.Test.YtgojncgdmcpkiaaTrCon
import Derived.Deep.RegionLaw
import Derived.Deep.RegionHeld3
import Derived.Deep.DeepCutAuto
namespace Go.Proofs.Ytgojncgdmcpkiaa.trl
open Go Go.RowKit Go.ChangeShapes Go.WideShapes Go.ChangeAt Go.Proofs.Ytgojncgdmcpkiaa.words
set_option linter.unusedVariables false
theorem flat_set {α : Type} (f : α → List Value) (s : Nat) (hs : ∀ x, (f x).length = s) (zs : List α) (i : Nat) (a : α) (hi : i < zs.length) (j : Nat) (u : Value) (b : α) (hb : f b = (f a).set j u) (ha : zs[i]? = some a) (hj : j < s) :
    (zs.flatMap f).set (i * s + j) u = (zs.set i b).flatMap f := by
  induction zs generalizing i with
  | nil => simp at hi
  | cons z zs ih =>
    cases i with
    | zero =>
      simp at ha; subst ha
      rw [List.set_cons_zero, List.flatMap_cons, List.flatMap_cons, hb, Nat.zero_mul, Nat.zero_add, List.set_append_left _ _ (by rw [hs]; exact hj)]
    | succ i =>
      rw [List.set_cons_succ, List.flatMap_cons, List.flatMap_cons, List.set_append_right _ _ (by rw [hs, Nat.succ_mul]; omega), hs, show (i + 1) * s + j - s = i * s + j by rw [Nat.succ_mul]; omega,
        ih i (by simpa using hi) (by simpa using ha)]
/-- a cell's value is turned -/
theorem cells_setv {w : World} {base : Nat} {r n c : Nat} {cs : List Cl} (h : w.ownsRow base 64 2 (.slice (some ⟨r, 0, none⟩) n c) n (cs.flatMap fcl)) {i : Nat} {a : Cl} (ha : cs[i]? = some a) (v : Int) :
    (w.setCell ⟨r, i * 2, none⟩ (.int .i64 v)).ownsRow base 64 2 (.slice (some ⟨r, 0, none⟩) n c) n ((cs.set i (v, a.2)).flatMap fcl) := by
  have := (h.stored (i * 2) (.int .i64 v)).1
  rwa [show i * 2 = i * 2 + 0 from rfl, flat_set fcl 2 (fun _ => rfl) cs i a (get_lt ha) 0 _ (v, a.2) rfl ha (by omega)] at this
theorem cells_sets {w : World} {base : Nat} {r n c : Nat} {cs : List Cl} (h : w.ownsRow base 64 2 (.slice (some ⟨r, 0, none⟩) n c) n (cs.flatMap fcl)) {i : Nat} {a : Cl} (ha : cs[i]? = some a) (s : Nat) :
    (w.setCell ⟨r, i * 2 + 1, none⟩ (.int .u64 s)).ownsRow base 64 2 (.slice (some ⟨r, 0, none⟩) n c) n ((cs.set i (a.1, s)).flatMap fcl) := by
  have := (h.stored (i * 2 + 1) (.int .u64 s)).1
  rwa [flat_set fcl 2 (fun _ => rfl) cs i a (get_lt ha) 1 _ (a.1, s) rfl ha (by omega)] at this
theorem reads_three {w : World} {t : TypeId} {b : Nat} {x y z : Value} (h : w.heap[b]? = some (.cells #[x, y, z] t (0, 0))) : Reads w w.heap.size 3 (some ⟨b, 0, none⟩) 1 [x, y, z] := by
  refine ⟨rfl, fun _ => ⟨_, rfl, Blk.lt h, fun j u hu => ?_⟩⟩
  have e : (Addr.add ⟨b, 0, none⟩ j) = ⟨b, j, none⟩ := by unfold Addr.add; split <;> simp_all
  rw [e, Blk.cell h j]
  match j, hu with
  | 0, hu => exact hu
  | 1, hu => exact hu
  | 2, hu => exact hu
  | j + 3, hu => simp at hu
/-- what a call leaves -/
def Left (w : World) (g : Nat) (F : Nat → Prop) (cs : List Cl) (os : List Ol) (ms : List Mk) (ev : Nat) (w' : World) : Prop := TR w' g (fun k => F k ∨ w.heap.size ≤ k) cs os ms ev ∧ Tch w w' F
theorem set_none (w : World) (i v : Int) : Calls Try.prog 12 #[.pointer none, .int .i64 i, .int .i64 v] w fun e w' => e = .returned (.int .i64 2) ∧ w = w' := by
  go_enter Try.func12, Try.ntmps12
  go_wp2
  go_ret
  exact ⟨rfl, rfl⟩
variable {g : Nat} {F : Nat → Prop} {cs : List Cl} {os : List Ol} {ms : List Mk} {ev : Nat}
theorem set_out (w : World) (h : TR w g F cs os ms ev) (i v : Int) (hi : ¬ (0 ≤ i ∧ i < cs.length)) : Calls Try.prog 12 #[.pointer (some ⟨g, 0, none⟩), .int .i64 i, .int .i64 v] w fun e w' => e = .returned (.int .i64 3) ∧ w = w' := by
  have hhas := has_of _ _ w i (tlen_any w h) false (by simp; omega)
  clear hi
  go_enter Try.func12, Try.ntmps12
  go_wp2_with fail
  refine hhas.mono ?_
  rintro e w' ⟨rfl, rfl⟩
  go_wp2_with fail
  go_ret
  exact ⟨rfl, rfl⟩
/-- the tail: only the value -/
theorem TR.setv {w : World} (h : TR w g F cs os ms ev) {i : Nat} {a : Cl} (ha : cs[i]? = some a) (v : Int) : ∃ r, (∃ c1, w.cell? ⟨g, 0, none⟩ = some (.slice (some ⟨r, 0, none⟩) cs.length c1)) ∧ w.frozen? ⟨r, i * 2, none⟩ = false ∧ (∃ u, w.cell? ⟨r, i * 2, none⟩ = some u) ∧ r ≠ g ∧
    Left w g F (cs.set i (v, a.2)) os ms ev (w.setCell ⟨r, i * 2, none⟩ (.int .i64 v)) := by
  have hi := get_lt ha
  obtain ⟨hg, A1, c1, A2, c2, A3, c3, hb, h1, f1, h2, f2, h3, f3⟩ := h
  obtain ⟨r, rfl, d0, d1⟩ := cells_at h1 ha hi
  have ne1 : r ≠ g := fun e => own_blk_ne h1 hb (by decide) (by rw [e]; rfl)
  have n2 : ∀ q, (Value.slice A2 os.length c2).ownBlock = some q → q ≠ r := fun q hq e => by
    subst e
    rcases h1.2 with ⟨h0, _⟩ | ⟨q', cap, cur, hv', _, hhp, _⟩
    · cases h0
    · cases hv'; exact own_blk_ne h2 hhp (by decide) hq
  have n3 : ∀ q, (Value.slice A3 ms.length c3).ownBlock = some q → q ≠ r := fun q hq e => by
    subst e
    rcases h1.2 with ⟨h0, _⟩ | ⟨q', cap, cur, hv', _, hhp, _⟩
    · cases h0
    · cases hv'; exact own_blk_ne h3 hhp (by decide) hq
  have ht : Tch w (w.setCell ⟨r, i * 2, none⟩ (.int .i64 v)) (· = r) := Tch.set_ w _ rfl
  refine ⟨r, ⟨c1, hb.cell 0⟩, h1.frozenAt (i * 2), ⟨_, d0⟩, ne1, ⟨.inl hg, some ⟨r, 0, none⟩, c1, A2, c2, A3, c3, ?_, ?_, ?_, ht.own h2 (fun q hq e => n2 q hq e), fun k hk => .inl (f2 k hk), ht.own h3 (fun q hq e => n3 q hq e), fun k hk => .inl (f3 k hk)⟩, ht.mono fun q _ e => f1 q (by rw [e]; rfl)⟩
  · rw [List.length_set]; exact ht.blk hb fun e => ne1 e.symm
  · rw [List.length_set]; exact cells_setv h1 ha v
  · rw [List.length_set]; exact fun k hk => .inl (f1 k hk)
/-- .. only the stamp -/
theorem TR.sets {w : World} (h : TR w g F cs os ms ev) {i : Nat} {a : Cl} (ha : cs[i]? = some a) (st : Nat) : ∃ r, (∃ c1, w.cell? ⟨g, 0, none⟩ = some (.slice (some ⟨r, 0, none⟩) cs.length c1)) ∧ w.frozen? ⟨r, i * 2 + 1, none⟩ = false ∧ (∃ u, w.cell? ⟨r, i * 2 + 1, none⟩ = some u) ∧ r ≠ g ∧
    Left w g F (cs.set i (a.1, st)) os ms ev (w.setCell ⟨r, i * 2 + 1, none⟩ (.int .u64 st)) := by
  have hi := get_lt ha
  obtain ⟨hg, A1, c1, A2, c2, A3, c3, hb, h1, f1, h2, f2, h3, f3⟩ := h
  obtain ⟨r, rfl, d0, d1⟩ := cells_at h1 ha hi
  have ne1 : r ≠ g := fun e => own_blk_ne h1 hb (by decide) (by rw [e]; rfl)
  have n2 : ∀ q, (Value.slice A2 os.length c2).ownBlock = some q → q ≠ r := fun q hq e => by
    subst e
    rcases h1.2 with ⟨h0, _⟩ | ⟨q', cap, cur, hv', _, hhp, _⟩
    · cases h0
    · cases hv'; exact own_blk_ne h2 hhp (by decide) hq
  have n3 : ∀ q, (Value.slice A3 ms.length c3).ownBlock = some q → q ≠ r := fun q hq e => by
    subst e
    rcases h1.2 with ⟨h0, _⟩ | ⟨q', cap, cur, hv', _, hhp, _⟩
    · cases h0
    · cases hv'; exact own_blk_ne h3 hhp (by decide) hq
  have ht : Tch w (w.setCell ⟨r, i * 2 + 1, none⟩ (.int .u64 st)) (· = r) := Tch.set_ w _ rfl
  refine ⟨r, ⟨c1, hb.cell 0⟩, h1.frozenAt (i * 2 + 1), ⟨_, d1⟩, ne1, ⟨.inl hg, some ⟨r, 0, none⟩, c1, A2, c2, A3, c3, ?_, ?_, ?_, ht.own h2 (fun q hq e => n2 q hq e), fun k hk => .inl (f2 k hk), ht.own h3 (fun q hq e => n3 q hq e), fun k hk => .inl (f3 k hk)⟩, ht.mono fun q _ e => f1 q (by rw [e]; rfl)⟩
  · rw [List.length_set]; exact ht.blk hb fun e => ne1 e.symm
  · rw [List.length_set]; exact cells_sets h1 ha st
  · rw [List.length_set]; exact fun k hk => .inl (f1 k hk)
theorem own_own_ne {w : World} {b b' s s' n n' : Nat} {e e' : TypeId} {v v' : Value} {xs ys : List Value} (h : w.ownsRow b e s v n xs) (h' : w.ownsRow b' e' s' v' n' ys) (hne : e ≠ e') {k : Nat} (hk : v.ownBlock = some k) : v'.ownBlock ≠ some k := by
  rcases h.2 with ⟨rfl, _⟩ | ⟨g, cap, cur, rfl, _, hh, _⟩
  · simp [Value.ownBlock] at hk
  · have : g = k := by simpa [Value.ownBlock] using hk
    subst this
    exact own_blk_ne h' hh fun e => hne e.symm
theorem own_kept_ne {w w' : World} {b b' s s' n n' : Nat} {e e' : TypeId} {v v' : Value} {xs ys : List Value} (h : w.ownsRow b e s v n xs) (h' : w.ownsRow b' e' s' v' n' ys) (hne : e ≠ e') {w0 : World} (hb : Below w.heap.size w w0) (hg : w0.grownBy w' v'.ownBlock) : w'.ownsRow b e s v n xs := by
  refine (own_under h hb).kept hg ?_
  by_cases h0 : v.ownBlock = none
  · exact .inl h0
  · refine .inr fun e => ?_
    obtain ⟨k, hk⟩ := Option.ne_none_iff_exists'.1 h0
    exact own_own_ne h h' hne hk (by rw [← e]; exact hk)
/-- a head is turned -/
theorem tr_upd {w4 : World} {F' : Nat → Prop} {a b c d x : Value} {A1 A2 A3 : Option Addr} {c1 c2 c3 : Nat} (hg : F' g) (hb : Blk w4 g 59 #[a, b, c, d]) (j : Nat) (he : (#[a, b, c, d] : Array Value).setIfInBounds j x = #[.slice A1 cs.length c1, .slice A2 os.length c2, .slice A3 ms.length c3, .int .u64 ev])
    (h1 : w4.ownsRow 0 64 2 (.slice A1 cs.length c1) cs.length (cs.flatMap fcl)) (f1 : ∀ k, (Value.slice A1 cs.length c1).ownBlock = some k → F' k)
    (h2 : w4.ownsRow 0 66 3 (.slice A2 os.length c2) os.length (os.flatMap fol)) (f2 : ∀ k, (Value.slice A2 os.length c2).ownBlock = some k → F' k)
    (h3 : w4.ownsRow 0 62 3 (.slice A3 ms.length c3) ms.length (ms.flatMap fmk)) (f3 : ∀ k, (Value.slice A3 ms.length c3).ownBlock = some k → F' k) :
    TR (w4.setCell ⟨g, j, none⟩ x) g F' cs os ms ev ∧ Tch w4 (w4.setCell ⟨g, j, none⟩ x) (· = g) := by
  have ht : Tch w4 (w4.setCell ⟨g, j, none⟩ x) (· = g) := Tch.set_ w4 _ rfl
  have hb' := hb.set_ j x
  rw [he] at hb'
  exact ⟨⟨hg, A1, c1, A2, c2, A3, c3, hb', ht.own h1 (fun q hq e => own_blk_ne h1 hb (by decide) (by rw [hq, e])), f1, ht.own h2 (fun q hq e => own_blk_ne h2 hb (by decide) (by rw [hq, e])), f2, ht.own h3 (fun q hq e => own_blk_ne h3 hb (by decide) (by rw [hq, e])), f3⟩, ht⟩
theorem tr_append_olds {wb w0 w4 : World} (h : TR wb g F cs os ms ev) {A2 : Option Addr} {c2 : Nat} (hc : wb.cell? ⟨g, 1, none⟩ = some (.slice A2 os.length c2)) (o : Ol) (hbl : Below wb.heap.size wb w0) (hg4 : w0.grownBy w4 (Value.slice A2 os.length c2).ownBlock)
    {A4 : Option Addr} {c4 : Nat} (hown4 : w4.ownsRow 0 66 3 (.slice A4 (os.length + 1) c4) (os.length + 1) (os.flatMap fol ++ fol o)) (hat : (Value.slice A4 (os.length + 1) c4).ownBlock = (Value.slice A2 os.length c2).ownBlock ∨ (Value.slice A4 (os.length + 1) c4).ownBlock = some w0.heap.size) :
    Left wb g F cs (os ++ [o]) ms ev (w4.setCell ⟨g, 1, none⟩ (.slice A4 (os.length + 1) c4)) ∧ ∀ b t xs, t ≠ 59 → t ≠ 66 → Blk wb b t xs → Blk (w4.setCell ⟨g, 1, none⟩ (.slice A4 (os.length + 1) c4)) b t xs := by
  obtain ⟨hg, A1, c1, A2', c2', A3, c3, hb, h1, f1, h2, f2, h3, f3⟩ := h
  rw [hb.cell 1] at hc
  have hc' : (Value.slice A2' os.length c2') = .slice A2 os.length c2 := by injection hc
  injection hc' with e1 _ e2
  subst e1; subst e2
  have hb4 : Blk w4 g 59 #[.slice A1 cs.length c1, .slice A2' os.length c2', .slice A3 ms.length c3, .int .u64 ev] := (hb.under hbl).grown hg4 fun e => own_blk_ne h2 hb (by decide) e.symm
  have hl : (os ++ [o]).length = os.length + 1 := by simp
  have hlen : (#[.slice A1 cs.length c1, .slice A2' os.length c2', .slice A3 ms.length c3, .int .u64 ev] : Array Value).setIfInBounds 1 (.slice A4 (os.length + 1) c4) = #[.slice A1 cs.length c1, .slice A4 (os ++ [o]).length c4, .slice A3 ms.length c3, .int .u64 ev] := by rw [hl]; rfl
  have hF4 : ∀ k, (Value.slice A4 (os ++ [o]).length c4).ownBlock = some k → F k ∨ wb.heap.size ≤ k := fun k hk => by
    have hk' : (Value.slice A4 (os.length + 1) c4).ownBlock = some k := by rw [← hk]; cases A4 <;> rfl
    rcases hat with e | e
    · exact .inl (f2 k (e.symm.trans hk'))
    · rw [hk'] at e; have := Option.some.inj e; exact .inr (by have := hbl.size; omega)
  have := tr_upd (F' := fun k => F k ∨ wb.heap.size ≤ k) (cs := cs) (os := os ++ [o]) (ms := ms) (.inl hg) hb4 1 hlen (own_kept_ne h1 h2 (by decide) hbl hg4) (fun k hk => .inl (f1 k hk))
    (by rw [hl, List.flatMap_append]; simpa using hown4) hF4 (own_kept_ne h3 h2 (by decide) hbl hg4) (fun k hk => .inl (f3 k hk))
  have ht4 : Tch wb w4 F := (Tch.of_below hbl F).trans (Tch.of_grown hg4 (S := F) fun q _ hq => f2 q hq.symm) fun _ _ h => h
  refine ⟨⟨this.1, ht4.trans (this.2.mono fun q _ e => by rw [e]; exact hg) fun _ _ h => h⟩, fun b t xs n1 n2 hx => ?_⟩
  have e1 : b ≠ g := fun e => by subst e; unfold Blk at hx hb; rw [hb] at hx; injection hx with hx; injection hx with _ hx; exact n1 hx.symm
  exact this.2.blk ((hx.under hbl).grown hg4 fun e => own_blk_ne h2 hx (fun e => n2 e.symm) e.symm) e1
theorem Left.of_below {w wa w' : World} {cs' : List Cl} {os' : List Ol} {ms' : List Mk} {ev' : Nat} (hb : Below w.heap.size w wa) (h : Left wa g F cs' os' ms' ev' w') : Left w g F cs' os' ms' ev' w' :=
  ⟨h.1.mono fun k hk => hk.elim .inl fun hk => .inr (Nat.le_trans hb.size hk), (Tch.of_below hb F).trans h.2 fun _ _ h => h⟩
theorem Left.drewN {w w' : World} {cs' : List Cl} {os' : List Ol} {ms' : List Mk} {ev' : Nat} (h : Left w g F cs' os' ms' ev' w') (n : Nat) : Left w g F cs' os' ms' ev' (w'.drewN n) :=
  ⟨h.1.below (below_drewN (Below.refl _ _) n), h.2.trans (Tch.of_below (below_drewN (Below.refl _ _) n) F) fun _ _ h => h⟩
theorem Left.refl {w : World} (h : TR w g F cs os ms ev) : Left w g F cs os ms ev w := ⟨h.mono fun _ => .inl, Tch.refl w F⟩
/-- one after the other -/
theorem Left.trans {w w1 w2 : World} {cs' cs2 : List Cl} {os' os2 : List Ol} {ms' ms2 : List Mk} {ev' ev2 : Nat} (h : Left w g F cs' os' ms' ev' w1) (k : Left w1 g (fun k => F k ∨ w.heap.size ≤ k) cs2 os2 ms2 ev2 w2) : Left w g F cs2 os2 ms2 ev2 w2 :=
  ⟨k.1.mono fun q hq => hq.elim id fun hq => .inr (Nat.le_trans h.2.size hq), h.2.trans k.2 fun q hq h => h.elim id fun h => absurd h (by omega)⟩
/-- no mark, or kept already -/
theorem set_bare (w : World) (h : TR w g F cs os [] ev) {i : Nat} {a : Cl} (ha : cs[i]? = some a) (v : Int) (hn : cs.length ≤ 1000000) :
    Calls Try.prog 12 #[.pointer (some ⟨g, 0, none⟩), .int .i64 i, .int .i64 v] w fun e w' => e = .returned (.int .i64 0) ∧ Left w g F (cs.set i (v, a.2)) os [] ev w' := by
  have hi := get_lt ha
  have hhas := has_of _ _ w (i : Int) (tlen_any w h) true (by simp [hi])
  obtain ⟨A1, c1, A2, c2, A3, c3, _, _, _, hc⟩ := h.heads
  obtain ⟨q0, q1, q2, q3⟩ := hc w (Below.refl _ _)
  obtain ⟨r, ⟨c1', e0⟩, e1, ⟨u, e2⟩, e3, hL⟩ := h.setv ha v
  rw [q0] at e0; cases e0
  rw [List.length_nil] at q2
  obtain ⟨n, hn'⟩ : ∃ n, cs.length = n := ⟨_, rfl⟩
  rw [hn'] at q0 hi hn
  have HL := Lib.hid hL
  clear hn' hc q1 q3 h hL
  go_enter Try.func12, Try.ntmps12
  go_wp2_with fail
  refine hhas.mono ?_
  rintro e w' ⟨rfl, rfl⟩
  go_wp2_with fail
  go_ret
  exact ⟨rfl, HL.out⟩
/-- .. kept already, or needn't be -/
theorem set_kept (w : World) (h : TR w g F cs os ms ev) {i ast mo mc mst : Nat} {av : Int} (ha : cs[i]? = some (av, ast)) (v : Int) (hn : cs.length ≤ 1000000) (hmb : ms.length ≤ 1000000) (hm : ms[ms.length - 1]? = some (mo, mc, mst)) (hold : mst ≤ ast ∨ mc ≤ i) :
    Calls Try.prog 12 #[.pointer (some ⟨g, 0, none⟩), .int .i64 i, .int .i64 v] w fun e w' => e = .returned (.int .i64 0) ∧ Left w g F (cs.set i (v, ast)) os ms ev w' := by
  have hi := get_lt ha
  have hhas := has_of _ _ w (i : Int) (tlen_any w h) true (by simp [hi])
  have hml : 0 < ms.length := Nat.lt_of_le_of_lt (Nat.zero_le _) (get_lt hm)
  obtain ⟨M, hM⟩ : ∃ M, ms.length = M + 1 := ⟨ms.length - 1, by omega⟩
  obtain ⟨n3, hn3⟩ : ∃ n3, ms.length = n3 := ⟨_, rfl⟩
  rw [hn3] at hM hm hmb hml
  have hm' : ms[M]? = some (mo, mc, mst) := by rw [← hm]; congr 1; omega
  have hMn : M < n3 := by omega
  obtain ⟨wa, hwa⟩ : ∃ wa, w.alloc (.cells #[.int .i64 mo, .int .i64 mc, .int .u64 mst] 62) = wa := ⟨_, rfl⟩
  have hba : Below w.heap.size w wa := by rw [← hwa]; exact bone _ _
  have hbox : Blk wa w.heap.size 62 #[.int .i64 mo, .int .i64 mc, .int .u64 mst] := by rw [← hwa]; exact Blk.new _ _ _
  have h' := h.below hba
  obtain ⟨q2, r3, c3, rM, d0, d1, d2⟩ : ∃ (q2 : w.cell? ⟨g, 0, none⟩ = w.cell? ⟨g, 0, none⟩) (r3 c3 : Nat), w.cell? ⟨g, 2, none⟩ = some (.slice (some ⟨r3, 0, none⟩) n3 c3) ∧ w.cell? ⟨r3, M * 3, none⟩ = some (.int .i64 mo) ∧ w.cell? ⟨r3, M * 3 + 1, none⟩ = some (.int .i64 mc) ∧ w.cell? ⟨r3, M * 3 + 2, none⟩ = some (.int .u64 mst) := by
    obtain ⟨hg, A1, c1, A2, c2, A3, c3, hb, h1, f1, h2, f2, h3, f3⟩ := h
    obtain ⟨r3, rfl, d0, d1, d2⟩ := marks_at h3 hm' (by omega)
    exact ⟨rfl, r3, c3, by rw [hb.cell 2, ← hn3]; rfl, d0, d1, d2⟩
  have W1 : (n3 : Int) - 1 = (M : Int) := by omega
  clear q2 h hm hm' hM
  obtain ⟨r, ⟨c1, e0⟩, e1, ⟨u, e2⟩, ne, hL⟩ := h'.setv ha v
  have s1 : wa.cell? ⟨r, i * 2 + 1, none⟩ = some (.int .u64 ast) := by
    obtain ⟨hg, A1, c1', A2, c2, A3, c3, hb, h1, f1, h2, f2, h3, f3⟩ := h'
    obtain ⟨r', rfl, d0, d1⟩ := cells_at h1 ha hi
    rw [hb.cell 0] at e0
    injection e0 with e0; injection e0 with e0; injection e0 with e0; injection e0 with e0
    subst e0; exact d1
  have HLv := Lib.hid hL
  have b1 := hbox.cell 1
  have b2 := hbox.cell 2
  obtain ⟨n, hn'⟩ : ∃ n, cs.length = n := ⟨_, rfl⟩
  rw [hn'] at e0 hi hn
  clear hn' hL h' ha hn3 hbox
  have HB := Lib.hid hba
  clear hba
  go_enter Try.func12, Try.ntmps12
  go_wp2_with fail
  refine hhas.mono ?_
  rintro e w' ⟨rfl, rfl⟩
  clear hhas
  by_cases hst : ast < mst
  · have hci : ¬ i < mc := by omega
    have t0 : decide (ast < mst) = true := decide_eq_true hst
    have t1 : decide (i < mc) = false := decide_eq_false hci
    clear hst hci hold
    go_wp2_with fail
    clear hwa d0 d1 d2 rM
    go_quiet (fail)
    go_wp2_with fail
    go_ret
    exact ⟨rfl, Left.of_below HB.out (HLv.out.drewN _)⟩
  · have t0 : decide (ast < mst) = false := decide_eq_false hst
    clear hst hold
    go_wp2_with fail
    clear hwa d0 d1 d2 rM
    go_quiet (fail)
    go_wp2_with fail
    go_ret
    exact ⟨rfl, Left.of_below HB.out (HLv.out.drewN _)⟩
set_option maxHeartbeats 8000000 in
/-- .. kept now -/
theorem set_new (w : World) (h : TR w g F cs os ms ev) {i ast mo mc mst : Nat} {av : Int} (ha : cs[i]? = some (av, ast)) (v : Int) (hn : cs.length ≤ 1000000) (hmb : ms.length ≤ 1000000) (hob : os.length ≤ 1000000) (hm : ms[ms.length - 1]? = some (mo, mc, mst)) (hst : ast < mst) (hci : i < mc) :
    Calls Try.prog 12 #[.pointer (some ⟨g, 0, none⟩), .int .i64 i, .int .i64 v] w fun e w' => e = .returned (.int .i64 0) ∧ Left w g F (cs.set i (v, mst)) (os ++ [(i, av, ast)]) ms ev w' := by
  obtain ⟨j0, hi0, hz0, hz1, hz2⟩ := info_parts infoO
  have hi := get_lt ha
  have hhas := has_of _ _ w (i : Int) (tlen_any w h) true (by simp [hi])
  have hml : 0 < ms.length := Nat.lt_of_le_of_lt (Nat.zero_le _) (get_lt hm)
  obtain ⟨M, hM⟩ : ∃ M, ms.length = M + 1 := ⟨ms.length - 1, by omega⟩
  obtain ⟨n3, hn3⟩ : ∃ n3, ms.length = n3 := ⟨_, rfl⟩
  rw [hn3] at hM hm hmb hml
  have hm' : ms[M]? = some (mo, mc, mst) := by rw [← hm]; congr 1; omega
  have hMn : M < n3 := by omega
  obtain ⟨wa, hwa⟩ : ∃ wa, w.alloc (.cells #[.int .i64 mo, .int .i64 mc, .int .u64 mst] 62) = wa := ⟨_, rfl⟩
  have hba : Below w.heap.size w wa := by rw [← hwa]; exact bone _ _
  have hbox : Blk wa w.heap.size 62 #[.int .i64 mo, .int .i64 mc, .int .u64 mst] := by rw [← hwa]; exact Blk.new _ _ _
  have h' := h.below hba
  obtain ⟨q2, r3, c3, rM, d0, d1, d2⟩ : ∃ (q2 : w.cell? ⟨g, 0, none⟩ = w.cell? ⟨g, 0, none⟩) (r3 c3 : Nat), w.cell? ⟨g, 2, none⟩ = some (.slice (some ⟨r3, 0, none⟩) n3 c3) ∧ w.cell? ⟨r3, M * 3, none⟩ = some (.int .i64 mo) ∧ w.cell? ⟨r3, M * 3 + 1, none⟩ = some (.int .i64 mc) ∧ w.cell? ⟨r3, M * 3 + 2, none⟩ = some (.int .u64 mst) := by
    obtain ⟨hg, A1, c1, A2, c2, A3, c3, hb, h1, f1, h2, f2, h3, f3⟩ := h
    obtain ⟨r3, rfl, d0, d1, d2⟩ := marks_at h3 hm' (by omega)
    exact ⟨rfl, r3, c3, by rw [hb.cell 2, ← hn3]; rfl, d0, d1, d2⟩
  have W1 : (n3 : Int) - 1 = (M : Int) := by omega
  clear q2 h hm hm' hM
  obtain ⟨r, c1, A2, c2, base, own2⟩ : ∃ r c1 A2 c2, (∀ w', Below wa.heap.size wa w' → w'.cell? ⟨g, 0, none⟩ = some (.slice (some ⟨r, 0, none⟩) cs.length c1) ∧ w'.cell? ⟨g, 1, none⟩ = some (.slice A2 os.length c2) ∧ w'.cell? ⟨r, i * 2, none⟩ = some (.int .i64 av) ∧ w'.cell? ⟨r, i * 2 + 1, none⟩ = some (.int .u64 ast)) ∧
      (∀ w', Below wa.heap.size wa w' → w'.ownsRow 0 66 3 (.slice A2 os.length c2) os.length (os.flatMap fol)) := by
    obtain ⟨hg, A1, c1, A2, c2, A3, c3', hb, h1, f1, h2, f2, h3, f3⟩ := h'
    obtain ⟨r, rfl, _, _⟩ := cells_at h1 ha hi
    refine ⟨r, c1, A2, c2, fun w' hw => ?_, fun w' hw => own_under h2 hw⟩
    obtain ⟨q0, q1, _, _⟩ := four (hb.under hw)
    obtain ⟨r', hr', d0, d1⟩ := cells_at (own_under h1 hw) ha hi
    injection hr' with hr'; injection hr' with hr'; subst hr'
    exact ⟨q0, q1, d0, d1⟩
  obtain ⟨q0, q1, e0, e1⟩ := base wa (Below.refl _ _)
  have b1 := hbox.cell 1
  have b2 := hbox.cell 2
  obtain ⟨n, hn'⟩ : ∃ n, cs.length = n := ⟨_, rfl⟩
  obtain ⟨n2, hn2⟩ : ∃ n, os.length = n := ⟨_, rfl⟩
  rw [hn'] at q0 hi hn base
  rw [hn2] at q1 hob base own2
  have hneg : ∀ w', Below wa.heap.size wa w' → ∃ X, Blk w' g 59 X ∧ (Value.slice A2 n2 c2).ownBlock ≠ some g := fun w' hw => by
    obtain ⟨hg, A1, c1, A2', c2', A3, c3', hb, h1, f1, h2, f2, h3, f3⟩ := h'.below hw
    exact ⟨_, hb, own_blk_ne (own2 w' hw) hb (by decide)⟩
  have HB := Lib.hid hba
  have HX := Lib.hid hbox
  have HN := Lib.hid hn'
  have HN2 := Lib.hid hn2
  have HBASE := Lib.hid base
  have HOWN := Lib.hid own2
  have HNEG := Lib.hid hneg
  have HTR := Lib.hid h'
  clear hba hbox hn' hn2 base own2 hneg h'
  have t0 : decide (ast < mst) = true := decide_eq_true hst
  have t1 : decide (i < mc) = true := decide_eq_true hci
  clear hst hci
  go_enter Try.func12, Try.ntmps12
  go_wp2_with fail
  refine hhas.mono ?_
  rintro e w' ⟨rfl, rfl⟩
  clear hhas
  go_wp2_with fail
  clear hwa d0 d1 d2 rM
  go_quiet (fail)
  go_wp2_with fail
  clear q0 q1 e0 e1 b1 b2
  obtain ⟨wb, hwb⟩ : ∃ wb, wa.drewN nq = wb := ⟨_, rfl⟩
  have HBb : Hid (Below wa.heap.size wa wb) := by show _; rw [← hwb]; exact below_drewN (Below.refl _ _) _
  rw [hwb]
  clear hwb
  obtain ⟨q0, q1, d0, d1⟩ := HBASE.out wb HBb.out
  obtain ⟨Q0, Q1, D0, D1⟩ := HBASE.out _ (bto HBb.out (bone wb (.cells #[.int .i64 (i : Int), .int .i64 av, .int .u64 (ast : Int)] 66)))
  have hra := HOWN.out _ (bto HBb.out (bone wb (.cells #[.int .i64 (i : Int), .int .i64 av, .int .u64 (ast : Int)] 66)).drew)
  have hr1 : Reads (wb.alloc (.cells #[.int .i64 (i : Int), .int .i64 av, .int .u64 (ast : Int)] 66)).drew (wb.alloc (.cells #[.int .i64 (i : Int), .int .i64 av, .int .u64 (ast : Int)] 66)).heap.size 3 (some ⟨wb.heap.size, 0, none⟩) 1 [.int .i64 i, .int .i64 av, .int .u64 ast] := reads_three (t := 66) (heap_alloc_new wb (.cells #[.int .i64 (i : Int), .int .i64 av, .int .u64 (ast : Int)] 66))
  have hone : ∀ u ∈ ([.int .i64 i, .int .i64 av, .int .u64 ast] : List Value), u.oneCell' = true := fun u hu => by simp at hu; rcases hu with rfl | rfl | rfl <;> rfl
  obtain ⟨X, hba2, hneg⟩ := HNEG.out _ (bto HBb.out (bone wb (.cells #[.int .i64 (i : Int), .int .i64 av, .int .u64 (ast : Int)] 66)).drew)
  have hX1 : ∃ u, X[1]? = some u := by
    have := hba2.cell 1
    rw [show (wb.alloc (.cells #[.int .i64 (i : Int), .int .i64 av, .int .u64 (ast : Int)] 66)).drew.cell? ⟨g, 1, none⟩ = _ from Q1] at this
    exact ⟨_, this.symm⟩
  obtain ⟨u1, hu1⟩ := hX1
  go_cut [] (fun wx => Left wb g F cs (os ++ [(i, av, ast)]) ms ev wx ∧ Blk wx w.heap.size 62 #[.int .i64 mo, .int .i64 mc, .int .u64 mst])
  case first =>
    go_region_law (refine step_append_any _ rfl (.tmp 53) (.tmp 63) 55 rfl 0 66 j0 _ 3 24 Try.underlying55 hi0 hz0 hz1 hz2 rfl (by omega) (.slice A2 n2 c2) n2 _ rfl hra (wb.alloc (.cells #[.int .i64 (i : Int), .int .i64 av, .int .u64 (ast : Int)] 66)).heap.size (some ⟨wb.heap.size, 0, none⟩) 1 1 [.int .i64 i, .int .i64 av, .int .u64 ast] rfl hr1 hone (by simp only [maxLen]; omega) (by omega) (by simp) ?_; intro v4 w4 hown4 hg4 hat; obtain ⟨A4, c4, rfl⟩ := own_shape hown4; have hb4 : Blk w4 g 59 X := hba2.grown hg4 (fun e => hneg e.symm); have k1 : w4.cell? ⟨g, 1, none⟩ = some u1 := (hb4.cell 1).trans hu1; have k2 := hb4.frozen 1)
    all_goals
      have hfin := tr_append_olds (w0 := (wb.alloc (.cells #[.int .i64 (i : Int), .int .i64 av, .int .u64 (ast : Int)] 66)).drew) (HTR.out.below HBb.out) (by rw [HN2.out]; exact q1) (i, av, ast) (bone wb _).drew (by rw [HN2.out]; exact hg4) (A4 := A4) (c4 := c4) (by rw [HN2.out]; exact hown4) (by rw [HN2.out]; exact hat)
      rw [HN2.out] at hfin
      have hfx := hfin.2 _ _ _ (by decide) (by decide) (HX.out.under HBb.out)
      go_wp2_with fail
      go_meet
      case rel => exact ⟨hfin.1, hfx⟩
  case rest =>
    clear q0 q1 d0 d1 Q0 Q1 D0 D1 hra hr1 hone hba2 hneg hu1
    obtain ⟨hL5, hbox5⟩ := hcut
    have HL5 := Lib.hid hL5
    have b2 := hbox5.cell 2
    have hca : cs[i]? = some (av, ast) := ha
    obtain ⟨r5, ⟨c5, e0⟩, e1, ⟨u, e2⟩, ne, hL6⟩ := hL5.1.sets ha mst
    have ha6 : (cs.set i (av, mst))[i]? = some (av, mst) := by rw [List.getElem?_set_self (get_lt ha)]
    rw [HN.out] at e0
    have HL6 := Lib.hid hL6
    have HA6 := Lib.hid ha6
    clear hL5 hbox5 hL6 ha6 hca ha
    go_wp2_with fail
    go_region
    have hL7 := HL6.out.drewN 1
    have hdr : (wc.setCell ⟨r5, i * 2 + 1, none⟩ (.int .u64 (mst : Int))).drewN 1 = (wc.setCell ⟨r5, i * 2 + 1, none⟩ (.int .u64 (mst : Int))).drew := rfl
    rw [hdr] at hL7
    obtain ⟨wd, hwd⟩ : ∃ wd, (wc.setCell ⟨r5, i * 2 + 1, none⟩ (.int .u64 (mst : Int))).drew = wd := ⟨_, rfl⟩
    rw [hwd] at hL7 ⊢
    clear hwd hdr e0 e1 e2 b2
    obtain ⟨r6, ⟨c6, g0⟩, g1, ⟨u6, g2⟩, ne6, hL8⟩ := hL7.1.setv HA6.out v
    rw [List.length_set, HN.out] at g0
    have hfin : Left w g F ((cs.set i (av, mst)).set i (v, mst)) (os ++ [(i, av, ast)]) ms ev (wd.setCell ⟨r6, i * 2, none⟩ (.int .i64 v)) := by
      exact Left.of_below (bto HB.out HBb.out) (HL5.out.trans (hL7.trans hL8))
    rw [List.set_set] at hfin
    have HF := Lib.hid hfin
    clear hfin hL7 hL8
    go_wp2_with fail
    go_ret
    exact ⟨rfl, HF.out⟩
end Go.Proofs.Ytgojncgdmcpkiaa.trl

/- What the reader hands on: rows of numbers, of lines, of what is shared; what leaves them alone. -/
import Derived.Test.YtafdijfbgkcnnaaDoorRdUn
import Derived.Maps.OwnSet
namespace Go.Proofs.YtafdijfbgkcnnaaDoor.wcp
open Go Go.RowKit Go.ChangeShapes Go.WideShapes Go.ChangeAt Go.Maps Go.Proofs.YtafdijfbgkcnnaaDoor.words Go.Proofs.YtafdijfbgkcnnaaDoor.scn
set_option linter.unusedVariables false
theorem own_is {w : World} {base : Nat} {e : TypeId} {size : Nat} {v : Value} {n : Nat} {xs : List Value} (h : w.ownsRow base e size v n xs) {q : Nat} (hq : v.ownBlock = some q) : ∃ cs, Blk w q e cs := by
  rcases h.2 with ⟨rfl, _⟩ | ⟨g, cap, cur, rfl, hb, hg, _⟩
  · cases hq
  · injection hq with hq; subst hq; exact ⟨_, hg⟩
def Row64 (w : World) (base : Nat) (v : Value) (xs : List Int) : Prop := (∃ A c, v = .slice A xs.length c) ∧ w.ownsRow base 2 1 v xs.length (nums xs)
abbrev LT := Value × List Int × Int
def lcells (L : List LT) : List Value := L.flatMap fun p => [p.1, .int .i64 p.2.2]
def LRow (w : World) (base : Nat) (v : Value) (L : List LT) : Prop := (∃ A c, v = .slice A L.length c) ∧ w.ownsRow base 146 2 v L.length (lcells L) ∧ ∀ p ∈ L, Row64 w base p.1 p.2.1
def LinesOwn (w : World) (base : Nat) (v : Value) (ls : List (List Int × Int)) : Prop := ∃ L : List LT, L.map (·.2) = ls ∧ LRow w base v L
abbrev ST := Value × Value × (List Int × List (List Int × Int))
def shcells (L : List ST) : List Value := L.flatMap fun p => [p.1, p.2.1]
def ShV (w : World) (sv : Value) (sh : List (List Int × List (List Int × Int))) : Prop :=
  ∃ L : List ST, L.map (·.2.2) = sh ∧ (∃ A c, sv = .slice A L.length c) ∧ w.ownsRow 0 143 2 sv L.length (shcells L) ∧ ∀ p ∈ L, Row64 w 0 p.1 p.2.2.1 ∧ LinesOwn w 0 p.2.1 p.2.2.2 ∧ p.2.2.1.length ≤ 1000000
/-- what S has is below the base, or no row of this kind -/
def Off (w : World) (base : Nat) (S : Nat → Prop) (t : TypeId) : Prop := ∀ k, S k → k < base ∨ ∀ cs, ¬ Blk w k t cs
variable {w w' : World} {S : Nat → Prop} {base : Nat} {v : Value}
theorem off_below {t : TypeId} (h : ∀ k, S k → k < base) : Off w base S t := fun k hk => .inl (h k hk)
theorem off_own {t : TypeId} {b0 n sz : Nat} {e : TypeId} {u : Value} {xs : List Value} (ho : w.ownsRow b0 e sz u n xs) (hne : e ≠ t) : Off w base (fun k => some k = u.ownBlock) t := fun k hk => .inr fun cs hb => own_blk_ne ho hb hne hk.symm
theorem own_off {e : TypeId} {sz n : Nat} {xs : List Value} (h : w.ownsRow base e sz v n xs) (ht : Tch w w' S) (ho : Off w base S e) : w'.ownsRow base e sz v n xs :=
  ht.own h fun g hg hs => by
    rcases ho g hs with h1 | h1
    · have := (own_in h hg).1; omega
    · obtain ⟨cs, hb⟩ := own_is h hg; exact h1 cs hb
theorem Row64.tch {xs : List Int} (h : Row64 w base v xs) (ht : Tch w w' S) (ho : Off w base S 2) : Row64 w' base v xs := ⟨h.1, own_off h.2 ht ho⟩
theorem LRow.tch {L : List LT} (h : LRow w base v L) (ht : Tch w w' S) (h1 : Off w base S 2) (h2 : Off w base S 146) : LRow w' base v L :=
  ⟨h.1, own_off h.2.1 ht h2, fun p hp => (h.2.2 p hp).tch ht h1⟩
theorem LinesOwn.tch {ls : List (List Int × Int)} (h : LinesOwn w base v ls) (ht : Tch w w' S) (h1 : Off w base S 2) (h2 : Off w base S 146) : LinesOwn w' base v ls := by
  obtain ⟨L, hL, hr⟩ := h; exact ⟨L, hL, hr.tch ht h1 h2⟩
theorem ShV.tch {sh : List (List Int × List (List Int × Int))} (h : ShV w v sh) (ht : Tch w w' S) (h1 : Off w 0 S 2) (h2 : Off w 0 S 146) (h3 : Off w 0 S 143) : ShV w' v sh := by
  obtain ⟨L, hL, hs, ho, hp⟩ := h
  exact ⟨L, hL, hs, own_off ho ht h3, fun p hm => ⟨(hp p hm).1.tch ht h1, (hp p hm).2.1.tch ht h1 h2, (hp p hm).2.2⟩⟩
theorem Row64.down {b' : Nat} {xs : List Int} (h : Row64 w base v xs) (hb : b' ≤ base) : Row64 w b' v xs := ⟨h.1, own_base h.2 hb⟩
theorem LRow.down {b' : Nat} {L : List LT} (h : LRow w base v L) (hb : b' ≤ base) : LRow w b' v L := ⟨h.1, own_base h.2.1 hb, fun p hp => (h.2.2 p hp).down hb⟩
theorem LRow.nil (w : World) (base : Nat) : LRow w base (.slice none 0 0) [] := ⟨⟨none, 0, rfl⟩, World.ownsRow_nil _ _ _ _, fun p hp => by cases hp⟩
theorem LinesOwn.nil (w : World) (base : Nat) : LinesOwn w base (.slice none 0 0) [] := ⟨[], rfl, LRow.nil w base⟩
theorem LinesOwn.down {b' : Nat} {ls : List (List Int × Int)} (h : LinesOwn w base v ls) (hb : b' ≤ base) : LinesOwn w b' v ls := by
  obtain ⟨L, hL, hr⟩ := h; exact ⟨L, hL, hr.down hb⟩
/-- the reader's blocks hold no rows -/
theorem Rok.off {gr gs : Nat} {bs : List UInt8} {wb : Int} {s : Ps} {sv : Value} (h : Rok w gr gs bs wb s sv) {t : TypeId} (h1 : 77 ≠ t) (h2 : 138 ≠ t) : Off w base (fun k => k = gr ∨ k = gs) t := by
  obtain ⟨p, big, badAt, bigAt, hr, ⟨A, c, hs, _⟩, _⟩ := h
  rintro k (rfl | rfl)
  · exact .inr fun cs hb => Blk.ne_ hr hb h1 rfl
  · exact .inr fun cs hb => Blk.ne_ hs hb h2 rfl
theorem shc_at {L : List ST} {i : Nat} {p : ST} (h : L[i]? = some p) : (shcells L)[i * 2]? = some p.1 ∧ (shcells L)[i * 2 + 1]? = some p.2.1 := by
  induction L generalizing i with
  | nil => simp at h
  | cons q L ih =>
    cases i with
    | zero => simp at h; subst h; exact ⟨rfl, rfl⟩
    | succ i =>
      have := ih (i := i) (by simpa using h)
      rw [show (i + 1) * 2 = i * 2 + 1 + 1 by omega]
      exact this
theorem lc_snoc (L : List LT) (p : LT) : lcells (L ++ [p]) = lcells L ++ [p.1, .int .i64 p.2.2] := by simp [lcells]
/-! the map of the keys that were seen -/
def Sn (D : DataW Unit) (ts : List (List Int)) : Prop := ∀ t : List Int, (∀ v ∈ t, 0 ≤ v ∧ v ≤ 4611686018427387904) → D.atKey (.string (keyB t)) (.lit (.int .i64 0)) = .lit (.int .i64 (if t ∈ ts then 1 else 0))
theorem sn_empty : Sn (.map []) [] := fun t _ => rfl
theorem itoa_space (v : Int) : ∀ c ∈ Lib.itoa v, c ≠ 32 := by
  have hd : ∀ u, ∀ c ∈ Lib.decDigits u, c ≠ 32 := fun u c hc => by
    have := List.all_eq_true.1 (dd_all u).2.1 c hc
    simp only [isD, Bool.and_eq_true, decide_eq_true_eq] at this
    rintro rfl
    have h3 : (32 : UInt8).toNat = 32 := rfl
    omega
  intro c hc
  unfold Lib.itoa at hc
  split at hc
  · rcases List.mem_cons.1 hc with rfl | hc
    · decide
    · exact hd _ c hc
  · exact hd _ c hc
theorem key_inj {a b : List Int} (ha : ∀ v ∈ a, 0 ≤ v ∧ v ≤ 4611686018427387904) (hb : ∀ v ∈ b, 0 ≤ v ∧ v ≤ 4611686018427387904) (h : keyB a = keyB b) : a = b :=
  keyB_inj itoa_space (fun v => 0 ≤ v ∧ v ≤ 4611686018427387904) (fun u v hu hv he => by
    have h1 := readW_itoa u
    have h2 := readW_itoa v
    rw [he, h2] at h1
    injection h1 with h1 _
    omega) ha hb h
theorem sn_put {D : DataW Unit} {ts : List (List Int)} {t : List Int} (h : Sn D ts) (hm : IsMap D) (ht : ∀ v ∈ t, 0 ≤ v ∧ v ≤ 4611686018427387904) : Sn (D.put (.string (keyB t)) (.lit (.int .i64 1))) (ts ++ [t]) := by
  intro u hu
  have hk : WideAt.IsKeyLit (.string (keyB t)) := trivial
  by_cases e : u = t
  · subst e
    rw [atKey_put_same hm hk, if_pos (by simp)]
  · have hne : Lit.string (keyB u) ≠ Lit.string (keyB t) := fun h => e (key_inj hu ht (by injection h))
    rw [atKey_put_other hne, h u hu]
    by_cases hm : u ∈ ts
    · rw [if_pos hm, if_pos (by simp [hm])]
    · rw [if_neg hm, if_neg (by simp [hm, e])]
end Go.Proofs.YtafdijfbgkcnnaaDoor.wcp

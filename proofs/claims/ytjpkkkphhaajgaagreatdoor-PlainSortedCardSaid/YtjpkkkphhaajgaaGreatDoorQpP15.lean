/- TpSame, TpLen2. -/
import Derived.Test.YtjpkkkphhaajgaaGreatDoorQpP10
import Derived.Test.YtjpkkkphhaajgaaGreatDoorQpP09
import Derived.Test.YtjpkkkphhaajgaaGreatDoorQpMapInc
import Derived.Deep.RegionHeld3
set_option linter.all false
/- Have two functions the same costs? -/
namespace Go.Proofs.YtjpkkkphhaajgaaGreatDoor.wcp
open Go Go.RowKit Go.ChangeShapes Go.WideShapes Go.ChangeAt Go.Maps Go.Proofs.YtjpkkkphhaajgaaGreatDoor.words
theorem keys_list (m : Nat) : ∀ es : List (Lit × DataW Unit), es.Pairwise (fun p q => p.1 ≠ q.1) → (∀ p ∈ es, ∃ t, Tpl_ m t ∧ p.1 = keyL (pad t)) → ∃ L : List (List Int), L.Nodup ∧ (∀ t, t ∈ L ↔ ∃ p ∈ es, Tpl_ m t ∧ p.1 = keyL (pad t)) ∧ L.length = es.length := by
 intro es
 induction es with
 | nil => intro _ _; exact ⟨[], List.nodup_nil, fun t => ⟨(fun h => by cases h), (fun ⟨p, hp, _⟩ => by cases hp)⟩, rfl⟩
 | cons p es ih =>
   intro hp hk
   obtain ⟨h1, h2⟩ := List.pairwise_cons.1 hp
   obtain ⟨L, hn, hm, hl⟩ := ih h2 fun q hq => hk q (List.mem_cons_of_mem _ hq)
   obtain ⟨t, ht, hpt⟩ := hk p (by simp)
   refine ⟨t :: L, List.nodup_cons.2 ⟨fun hL => ?_, hn⟩, fun u => ⟨fun hu => ?_, fun ⟨q, hq, hu, hqu⟩ => ?_⟩, by simp [hl]⟩
   ·obtain ⟨q, hq, _, hqt⟩ := (hm t).1 hL
    exact h1 q hq (hpt.trans hqt.symm)
   ·rcases List.mem_cons.1 hu with rfl | hu
    ·exact ⟨p, by simp, ht, hpt⟩
    ·obtain ⟨q, hq, h3⟩ := (hm u).1 hu
     exact ⟨q, List.mem_cons_of_mem _ hq, h3⟩
   ·rcases List.mem_cons.1 hq with rfl | hq
    ·rw [hpt] at hqu
     rw [kl_inj hu ht hqu.symm]; simp
    ·exact List.mem_cons_of_mem _ ((hm u).2 ⟨q, hq, hu, hqu⟩)
theorem nodup_le {α : Type} [DecidableEq α] : ∀ (l m : List α), l.Nodup → (∀ x ∈ l, x ∈ m) → l.length ≤ m.length := by
 intro l
 induction l with
 | nil => intro m _ _; exact Nat.zero_le _
 | cons a l ih =>
   intro m hn hm
   obtain ⟨h1, h2⟩ := List.nodup_cons.1 hn
   have ha := hm a (by simp)
   have := ih (m.erase a) h2 fun x hx => by
    have hne : x ≠ a := fun e => h1 (e ▸ hx)
    exact (List.mem_erase_of_ne hne).2 (hm x (List.mem_cons_of_mem _ hx))
   rw [List.length_erase_of_mem ha] at this
   have := List.length_pos_of_mem ha
   simp only [List.length_cons]
   omega
theorem told_list {w : World} {e : TypeId} {b n m : Nat} {D : DataW Unit} (h : w.ownsMap Tryz.prog 166 (plainElem Tryz.prog e) b n D) (hk : ∀ kl, Maps.has D kl = true → ∃ t, Tpl_ m t ∧ kl = keyL (pad t)) :
 ∃ L : List (List Int), L.Nodup ∧ (∀ t, t ∈ L ↔ (Tpl_ m t ∧ Maps.has D (keyL (pad t)) = true)) ∧ L.length = Maps.size D := by
 obtain ⟨es, rfl, hp, hkl⟩ := h.entries keyed6
 have hhas : ∀ p ∈ es, Maps.has (.map es) p.1 = true := fun p hp => by
  rw [has_eq, List.any_eq_true]
  exact ⟨p, hp, WideAt.sameKey_self (hkl p hp)⟩
 obtain ⟨L, h1, h2, h3⟩ := keys_list m es hp fun p hp => hk _ (hhas p hp)
 refine ⟨L, h1, fun t => ⟨fun ht => ?_, fun ⟨ht, hh⟩ => ?_⟩, by rw [h3, size_eq]⟩
 ·obtain ⟨p, hp, h4, h5⟩ := (h2 t).1 ht
  exact ⟨h4, by rw [← h5]; exact hhas p hp⟩
 ·rw [has_eq, List.any_eq_true] at hh
  obtain ⟨p, hp, h4⟩ := hh
  exact (h2 t).2 ⟨p, hp, ht, WideAt.sameKey_eq h4⟩
end Go.Proofs.YtjpkkkphhaajgaaGreatDoor.wcp
/- Tuples.Len: how many tuples are told. -/
namespace Go.Proofs.YtjpkkkphhaajgaaGreatDoor.wcp
open Go Go.RowKit Go.ChangeShapes Go.WideShapes Go.ChangeAt Go.Maps Go.Proofs.YtjpkkkphhaajgaaGreatDoor.words Go.Proofs.YtjpkkkphhaajgaaGreatDoor.scn
theorem tlenL_any {w : World} {g n : Nat} {F : Nat → Prop} {T : TpH} (hT : TpV w g F n T) : Calls Tryz.prog 14 #[.pointer (some ⟨g, 0, none⟩)] w fun e w' => (∃ L : List (List Int), L.Nodup ∧ (∀ t, t ∈ L ↔ Tpl_ T.sizes.length t ∧ (T.f t).isSome = true) ∧ L.length ≤ n ∧ e = .returned (.int .i64 L.length)) ∧ w = w' := by
 obtain ⟨hFg, SA, sc, mb, D, hb, hown, hf, hm, hmb, hd⟩ := hT
 obtain ⟨q0, q1, q2, q3, -⟩ := Blk.four (t := 103) hb
 have hlen := fun ty => hm.len Tryz.underlying101 ty
 have hle := hm.size_le
 obtain ⟨L, h1, h2, h3⟩ := told_list hm hd.2
 obtain ⟨m, hmm⟩ : ∃ m, Maps.size D = m := ⟨_, rfl⟩
 rw [hmm] at hle hlen h3
 have H : Hid (∃ L : List (List Int), L.Nodup ∧ (∀ t, t ∈ L ↔ Tpl_ T.sizes.length t ∧ (T.f t).isSome = true) ∧ L.length ≤ n ∧ L.length = m) :=
  ⟨L, h1, fun t => (h2 t).trans ⟨fun h => ⟨h.1, by rw [← (hd.1 t h.1).1]; exact h.2⟩, fun h => ⟨h.1, by rw [(hd.1 t h.1).1]; exact h.2⟩⟩, by omega, h3⟩
 clear hFg hb hown hf hm hmb hd h1 h2 h3 hle L
 go_enter Tryz.func14, Tryz.ntmps14
 go_wp2
 go_ret
 obtain ⟨L, h1, h2, h3, rfl⟩ := H.out
 exact ⟨⟨L, h1, h2, h3, rfl⟩, rfl⟩
end Go.Proofs.YtjpkkkphhaajgaaGreatDoor.wcp

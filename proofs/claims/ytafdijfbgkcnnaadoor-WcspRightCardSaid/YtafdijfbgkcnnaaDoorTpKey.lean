/- The key of a tuple in the map of a function: six bytes. -/
import Derived.Test.YtafdijfbgkcnnaaDoorFindBad
import Derived.Test.YtafdijfbgkcnnaaDoorIntClone
import Derived.Test.YtafdijfbgkcnnaaDoorRdFun
import Derived.DeepKeys4
namespace Go.Proofs.YtafdijfbgkcnnaaDoor.wcp
open Go Go.RowKit Go.ChangeShapes Go.WideShapes Go.ChangeAt Go.Maps Go.Proofs.YtafdijfbgkcnnaaDoor.words Go.Proofs.YtafdijfbgkcnnaaDoor.scn
set_option linter.unusedVariables false
theorem laid_out : laidOutB Tryd.prog = true := by kernel_rfl
theorem keyed6 : Keyed Tryd.prog 119 := Keyed.of_law (deep_law_laid laid_out (m := 2) (by omega) (of_decide_eq_true (by kernel_rfl)) (by kernel_rfl) (by kernel_rfl))
def pad (t : List Int) : List Int := t ++ List.replicate (6 - t.length) 0
theorem pad_len {t : List Int} (h : t.length ≤ 6) : (pad t).length = 6 := by simp [pad]; omega
def keyV (c : List Int) : Value := .agg (c.map (Value.int .i8)).toArray
def keyL (c : List Int) : Lit := .string (keyBytes (c.map fun n => Lit.int .i8 n))
theorem keyOf6 {c : List Int} (hl : c.length = 6) (hb : ∀ n ∈ c, -128 ≤ n ∧ n ≤ 127) : keyOf Tryd.prog 119 (keyV c) = some (keyL c) := by
  have kt : Tryd.prog.keyType 119 = true := by kernel_rfl
  have c1 : Tryd.prog.cellsOf 119 = 6 := by kernel_rfl
  have c2 : Tryd.prog.cellsOf 117 = 1 := by kernel_rfl
  obtain ⟨d, hd⟩ : ∃ d, Tryd.prog.types.size + 1 = d + 1 + 1 := ⟨Tryd.prog.types.size - 1, by
    have : 2 ≤ Tryd.prog.types.size := of_decide_eq_true (by kernel_rfl)
    omega⟩
  have hw : ∀ n ∈ c, (Lit.int .i8 n).wf = true := fun n hn => by
    have := hb n hn
    simp [Lit.wf, IntKind.min, IntKind.max, IntKind.signed, IntKind.bits]; omega
  match c, hl with
  | [a0, a1, a2, a3, a4, a5], _ =>
    have h0 := hw a0 (by simp)
    have h1 := hw a1 (by simp)
    have h2 := hw a2 (by simp)
    have h3 := hw a3 (by simp)
    have h4 := hw a4 (by simp)
    have h5 := hw a5 (by simp)
    have r6 : List.range 6 = [0, 1, 2, 3, 4, 5] := rfl
    unfold keyOf
    rw [Tryd.underlying119]
    have hf : (keyV [a0, a1, a2, a3, a4, a5]).formed Tryd.prog 119 = true := by
      simp [keyV, Value.formed, Tryd.underlying119, c1]
    rw [kt, hf]
    simp only [Bool.and_true, if_true]
    rw [hd]
    unfold Program.keyLits
    rw [Tryd.underlying119]
    simp [c1, c2, r6, keyV, Value.cells, Program.keyLits, Tryd.underlying117, h0, h1, h2, h3, h4, h5, keyL]
theorem key_list {c d : List Int} (h : keyV c = keyV d) : c = d := by
  have h4 : (c.map (Value.int .i8)).toArray = (d.map (Value.int .i8)).toArray := by unfold keyV at h; exact Value.agg.inj h
  have h5 : c.map (Value.int .i8) = d.map (Value.int .i8) := by
    have := congrArg Array.toList h4
    rwa [List.toList_toArray, List.toList_toArray] at this
  exact (List.map_inj_right (fun a b h => (Value.int.inj h).2)).1 h5
theorem keyL_inj {c d : List Int} (hc : c.length = 6) (hd : d.length = 6) (hcb : ∀ n ∈ c, -128 ≤ n ∧ n ≤ 127) (hdb : ∀ n ∈ d, -128 ≤ n ∧ n ≤ 127) (h : keyL c = keyL d) : c = d := by
  have h1 := keyOf6 hc hcb
  have h2 := keyOf6 hd hdb
  rw [← h] at h2
  have h3 : keyV c = keyV d := Keyed.inj keyed6 h1 h2
  exact key_list h3
theorem pad_inj {t u : List Int} (h : t.length = u.length) (he : pad t = pad u) : t = u := by
  unfold pad at he
  exact (List.append_inj he h).1
/-- what a tuple may be -/
def Tpl_ (n : Nat) (t : List Int) : Prop := t.length = n ∧ n ≤ 6 ∧ ∀ v ∈ t, 0 ≤ v ∧ v < 32
theorem Tpl_.pad {n : Nat} {t : List Int} (h : Tpl_ n t) : (pad t).length = 6 ∧ ∀ v ∈ wcp.pad t, -128 ≤ v ∧ v ≤ 127 := by
  refine ⟨pad_len (by rw [h.1]; exact h.2.1), fun v hv => ?_⟩
  unfold wcp.pad at hv
  rcases List.mem_append.1 hv with hv | hv
  · have := h.2.2 v hv; omega
  · have := (List.mem_replicate.1 hv).2; omega
theorem kl_inj {n : Nat} {t u : List Int} (ht : Tpl_ n t) (hu : Tpl_ n u) (h : keyL (pad t) = keyL (pad u)) : t = u :=
  pad_inj (by rw [ht.1, hu.1]) (keyL_inj ht.pad.1 hu.pad.1 ht.pad.2 hu.pad.2 h)
/-- the map says what f says -/
def TD (D : DataW Unit) (n : Nat) (f : List Int → Option Int) : Prop :=
  (∀ t, Tpl_ n t → Maps.has D (keyL (pad t)) = (f t).isSome ∧ ∀ c, f t = some c → ∀ z, D.atKey (keyL (pad t)) z = .lit (.int .i64 c)) ∧ ∀ kl, Maps.has D kl = true → ∃ t, Tpl_ n t ∧ kl = keyL (pad t)
theorem td_empty (n : Nat) : TD (.map []) n (fun _ => none) := ⟨fun t _ => ⟨rfl, fun c h => by cases h⟩, fun kl h => by cases h⟩
theorem td_put {D : DataW Unit} {n : Nat} {f : List Int → Option Int} {t : List Int} {c : Int} (h : TD D n f) (hm : IsMap D) (ht : Tpl_ n t) : TD (D.put (keyL (pad t)) (.lit (.int .i64 c))) n (fun u => if u = t then some c else f u) := by
  have hk : WideAt.IsKeyLit (keyL (pad t)) := trivial
  refine ⟨fun u hu => ?_, fun kl hkl => by
    by_cases e : kl = keyL (pad t)
    · exact ⟨t, ht, e⟩
    · rw [has_put_other e] at hkl; exact h.2 kl hkl⟩
  by_cases e : u = t
  · subst e
    simp only [if_true]
    exact ⟨by rw [has_put_same hm hk]; rfl, fun c' h z => by injection h with h; rw [← h]; exact atKey_put_same hm hk _ _⟩
  · have hne : keyL (pad u) ≠ keyL (pad t) := fun h => e (kl_inj hu ht h)
    simp only [if_neg e]
    exact ⟨by rw [has_put_other hne]; exact (h.1 u hu).1, fun c' h' z => by rw [atKey_put_other hne]; exact (h.1 u hu).2 c' h' z⟩
theorem td_del {D : DataW Unit} {n : Nat} {f : List Int → Option Int} {t : List Int} (h : TD D n f) (ht : Tpl_ n t) : TD (D.del (keyL (pad t))) n (fun u => if u = t then none else f u) := by
  refine ⟨fun u hu => ?_, fun kl hkl => by
    by_cases e : kl = keyL (pad t)
    · rw [e, has_del_same] at hkl; cases hkl
    · rw [has_del_other e] at hkl; exact h.2 kl hkl⟩
  by_cases e : u = t
  · subst e
    simp only [if_true]
    exact ⟨by rw [has_del_same]; rfl, fun c' h z => by cases h⟩
  · have hne : keyL (pad u) ≠ keyL (pad t) := fun h => e (kl_inj hu ht h)
    simp only [if_neg e]
    exact ⟨by rw [has_del_other hne]; exact (h.1 u hu).1, fun c' h' z => by rw [atKey_del_other hne]; exact (h.1 u hu).2 c' h' z⟩
end Go.Proofs.YtafdijfbgkcnnaaDoor.wcp

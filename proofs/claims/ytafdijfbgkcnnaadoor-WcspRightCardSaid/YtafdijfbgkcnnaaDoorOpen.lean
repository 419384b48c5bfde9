/- An argument that is a slice of whatever plain elements, opened to its cells. -/
import Derived.Test.YtafdijfbgkcnnaaDoorNums
import Derived.ProofKit
import Derived.OpenShut
import Derived.Deep.Slices
import Derived.Deep.Fields
import Derived.ChangeSame
namespace Go.Proofs.YtafdijfbgkcnnaaDoor.words
open Go Go.RowKit Go.ChangeShapes Go.WideShapes Go.Deep
theorem flat_len {α : Type} (f : α → List Value) (s : Nat) (hs : ∀ x, (f x).length = s) (zs : List α) : (zs.flatMap f).length = zs.length * s := by
  induction zs with
  | nil => simp
  | cons z zs ih => rw [List.flatMap_cons, List.length_append, ih, hs, List.length_cons, Nat.add_mul, Nat.one_mul, Nat.add_comm]
theorem flat_get {α : Type} (f : α → List Value) (s : Nat) (hs : ∀ x, (f x).length = s) (zs : List α) (i j : Nat) (z : α) (hz : zs[i]? = some z) (hj : j < s) : (zs.flatMap f)[i * s + j]? = (f z)[j]? := by
  induction zs generalizing i with
  | nil => simp at hz
  | cons y zs ih =>
    rw [List.flatMap_cons]
    cases i with
    | zero =>
      simp at hz; subst hz
      rw [Nat.zero_mul, Nat.zero_add, List.getElem?_append_left (by rw [hs]; exact hj)]
    | succ i =>
      simp at hz
      rw [List.getElem?_append_right (by rw [hs, Nat.add_mul]; omega), hs, show (i + 1) * s + j - s = i * s + j by rw [Nat.add_mul]; omega]
      exact ih i hz
theorem flat_one {α : Type} (f : α → Value) (zs : List α) : zs.flatMap (fun x => [f x]) = zs.map f := by
  induction zs with
  | nil => rfl
  | cons z zs ih => rw [List.flatMap_cons, ih]; rfl
theorem list_of (α : Type) (n : Nat) (R : Nat → α → Prop) (h : ∀ i, i < n → ∃ x, R i x) : ∃ zs : List α, zs.length = n ∧ ∀ i z, zs[i]? = some z → R i z := by
  induction n with
  | zero => exact ⟨[], rfl, fun i z hz => by simp at hz⟩
  | succ n ih =>
    obtain ⟨zs, hl, hz⟩ := ih fun i hi => h i (by omega)
    obtain ⟨x, hx⟩ := h n (by omega)
    refine ⟨zs ++ [x], by simp [hl], fun i z hzi => ?_⟩
    rcases Nat.lt_or_ge i n with hi | hi
    · rw [List.getElem?_append_left (by omega)] at hzi; exact hz i z hzi
    · have hlt := (List.getElem?_eq_some_iff.1 hzi).1
      simp [hl] at hlt
      obtain rfl : i = n := by omega
      rw [List.getElem?_append_right (by omega)] at hzi
      simp [hl] at hzi
      subst hzi; exact hx
section
variable {H : Type} {enc : TypeId × Value → H} {P : Program} {W : World} {spare : Nat → Bool} {held : Bool}
theorem open_rows {α : Type} (f : α → List Value) (Q : α → Prop) {s : Nat} (hs : ∀ x, (f x).length = s) (hs0 : 0 < s) {t e : TypeId} (ht : P.underlying t = some (.slice e)) (hC : P.cellsOf e = s)
    (hdec : ∀ (n : Nat) (cs : List Value) (y : DataW H × List MemPlace), DataW.trod enc P W 0 spare held n e cs = some y → ∃ x, cs = f x ∧ Q x)
    {a : Option Addr} {len cap : Nat} {d : DataW H} {p : List MemPlace} (h : DataW.Trod enc P W 0 spare held t (.slice a len cap) d p) :
    ∃ zs : List α, zs.length = len ∧ Reads W W.heap.size s a len (zs.flatMap f) ∧ (∀ x ∈ zs, Q x) ∧ len ≤ cap ∧ len ≤ 9223372036854775807 := by
  obtain ⟨fuel, hf⟩ := h
  rcases open_slice ht (by simpa [Value.cells] using hf) with ⟨h1, _⟩ | ⟨ad, l, c, m, n, D, Pl, h1, _, hl, hm, hmm, _, hi⟩
  · simp at h1
    obtain ⟨rfl, rfl, rfl⟩ := h1
    exact ⟨[], rfl, by simpa using Reads.none_, by simp, by omega, by omega⟩
  · simp at h1
    obtain ⟨rfl, rfl, rfl⟩ := h1
    have hlm : len ≤ m := by rw [hmm]; split <;> omega
    obtain ⟨zs, hzl, hz⟩ := list_of α len (fun i x => W.cells? 0 (ad.add (i * s)) s = some (f x) ∧ Q x) fun i hil => by
      obtain ⟨cs', hc, ht'⟩ := hi i (by omega)
      rw [hC] at hc
      obtain ⟨x, rfl, hq⟩ := hdec _ _ _ ht'
      exact ⟨x, hc, hq⟩
    have hcell : ∀ i z j u, zs[i]? = some z → (f z)[j]? = some u → W.cell? (ad.add (i * s + j)) = some u := fun i z j u hzi hu => by
      have hj : j < s := by rw [← hs z]; exact (List.getElem?_eq_some_iff.1 hu).1
      obtain ⟨_, _, hat⟩ := World.cells?_some (hz i z hzi).1
      rw [← Go.Deep.add_add, hat j hj]; exact hu
    refine ⟨zs, hzl, ⟨by rw [flat_len f s hs, hzl], fun h0 => ⟨ad, rfl, ?_, fun j u hu => ?_⟩⟩, fun x hx => ?_, hl, by unfold maxLen at hm; omega⟩
    · obtain ⟨z, hz0⟩ : ∃ z, zs[0]? = some z := ⟨_, List.getElem?_eq_getElem (by omega)⟩
      have hf0 : (f z)[0]? = some ((f z)[0]'(by rw [hs]; exact hs0)) := List.getElem?_eq_getElem _
      have := World.block_lt_of_cell? W _ (hcell 0 z 0 _ hz0 hf0)
      rwa [block_of_add] at this
    · have hjl := (List.getElem?_eq_some_iff.1 hu).1
      rw [flat_len f s hs] at hjl
      have hq : j / s < zs.length := Nat.div_lt_of_lt_mul (by rw [Nat.mul_comm]; exact hjl)
      have hr : j % s < s := Nat.mod_lt _ hs0
      have hz0 : zs[j / s]? = some (zs[j / s]'hq) := List.getElem?_eq_getElem hq
      have e : j / s * s + j % s = j := by rw [Nat.mul_comm]; exact Nat.div_add_mod j s
      have hg := flat_get f s hs zs (j / s) (j % s) _ hz0 hr
      rw [e, hu] at hg
      have := hcell (j / s) _ (j % s) u hz0 hg.symm
      rwa [e] at this
    · obtain ⟨i, hi', rfl⟩ := List.mem_iff_getElem.1 hx
      exact (hz i _ (List.getElem?_eq_getElem hi')).2
theorem open_ones {α : Type} (f : α → Value) (Q : α → Prop) {t e : TypeId} (ht : P.underlying t = some (.slice e)) (hC : P.cellsOf e = 1)
    (hdec : ∀ (n : Nat) (cs : List Value) (y : DataW H × List MemPlace), DataW.trod enc P W 0 spare held n e cs = some y → ∃ x, cs = [f x] ∧ Q x)
    {a : Option Addr} {len cap : Nat} {d : DataW H} {p : List MemPlace} (h : DataW.Trod enc P W 0 spare held t (.slice a len cap) d p) :
    ∃ zs : List α, zs.length = len ∧ Reads W W.heap.size 1 a len (zs.map f) ∧ (∀ x ∈ zs, Q x) ∧ len ≤ cap ∧ len ≤ 9223372036854775807 := by
  obtain ⟨zs, h1, h2, h3⟩ := open_rows (s := 1) (fun x => [f x]) Q (fun _ => rfl) Nat.one_pos ht hC hdec h
  rw [flat_one] at h2
  exact ⟨zs, h1, h2, h3⟩
theorem dec_int {e : TypeId} {k : IntKind} (he : P.underlying e = some (.int k)) (n : Nat) (cs : List Value) (y : DataW H × List MemPlace) (h : DataW.trod enc P W 0 spare held n e cs = some y) : ∃ x, cs = [.int k x] ∧ (Lit.int k x).wf = true := by
  obtain ⟨x, rfl, _, hw⟩ := DataW.trod_int he h; exact ⟨x, rfl, hw⟩
theorem dec_bool {e : TypeId} (he : P.underlying e = some .bool) (n : Nat) (cs : List Value) (y : DataW H × List MemPlace) (h : DataW.trod enc P W 0 spare held n e cs = some y) : ∃ x : Bool, cs = [.bool x] ∧ True := by
  obtain ⟨x, rfl, _⟩ := DataW.trod_bool he h; exact ⟨x, rfl, trivial⟩
theorem dec_string {e : TypeId} (he : P.underlying e = some .string) (n : Nat) (cs : List Value) (y : DataW H × List MemPlace) (h : DataW.trod enc P W 0 spare held n e cs = some y) : ∃ x : ByteArray, cs = [.string x] ∧ x.size ≤ maxLen := by
  obtain ⟨x, rfl, _, hw⟩ := DataW.trod_string he h; exact ⟨x, rfl, hw⟩
theorem dec_float {e : TypeId} {k : FloatKind} (he : P.underlying e = some (.float k)) (n : Nat) (cs : List Value) (y : DataW H × List MemPlace) (h : DataW.trod enc P W 0 spare held n e cs = some y) : ∃ x, cs = [.float k x] ∧ (Lit.float k x).wf = true := by
  cases n with
  | zero => simp [DataW.trod] at h
  | succ n =>
    unfold DataW.trod at h
    simp only [he] at h
    split at h <;> simp_all
end
end Go.Proofs.YtafdijfbgkcnnaaDoor.words

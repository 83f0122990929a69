/- The names, places and widths of the fields: the plain law. -/
import Derived.Test.YtpneikbihcoaaaaRec7
open Go Go.Proofs Go.Proofs.Ytpneikbihcoaaaa
namespace Go.Proofs.Ytpneikbihcoaaaa.Vm
set_option linter.unusedVariables false
set_option linter.unusedSimpArgs false

/-- Has one of the first fields this name? -/
def fnd (s : ByteArray) : Nat → Bool
  | 0 => false
  | i + 1 => fnd s i || ((nameOf (i : Int)).toList == s.toList)

theorem fnd_iff (s : ByteArray) : ∀ i, fnd s i = true ↔ ∃ k : Nat, k < i ∧ (nameOf (k : Int)).toList = s.toList
  | 0 => by simp [fnd]
  | i + 1 => by
    simp only [fnd, Bool.or_eq_true, beq_iff_eq, fnd_iff s i]
    constructor
    · rintro (⟨k, h1, h2⟩ | h)
      · exact ⟨k, by omega, h2⟩
      · exact ⟨i, by omega, h⟩
    · rintro ⟨k, h1, h2⟩
      by_cases e : k = i
      · subst e; exact .inr h2
      · exact .inl ⟨k, by omega, h2⟩

/-- A text's place: there is none, or the text stands there. -/
theorem indexOf_spec (s : ByteArray) : ∀ (xs : List ByteArray) (i : Nat), (indexOf xs s i = -1 ∧ ∀ x ∈ xs, x.toList ≠ s.toList) ∨ ∃ j : Nat, indexOf xs s i = ((i + j : Nat) : Int) ∧ ∃ x, xs[j]? = some x ∧ x.toList = s.toList
  | [], i => .inl ⟨rfl, by simp⟩
  | x :: xs, i => by
    unfold indexOf
    by_cases h : s.toList = x.toList
    · right
      exact ⟨0, by simp [h], x, rfl, h.symm⟩
    · rcases indexOf_spec s xs (i + 1) with ⟨h1, h2⟩ | ⟨j, h1, y, h2, h3⟩
      · left
        refine ⟨by simp [h, h1], fun y hy => ?_⟩
        rcases List.mem_cons.1 hy with rfl | hy
        · exact fun e => h e.symm
        · exact h2 y hy
      · right
        exact ⟨j + 1, by simp [h, h1]; omega, y, by simpa using h2, h3⟩

theorem nameOf_get {j : Nat} {x : ByteArray} (h : nms[j]? = some x) : j < 9 ∧ nameOf (j : Int) = x := by
  have hj : j < 9 := by
    have := (List.getElem?_eq_some_iff.1 h).1
    simpa [nms] using this
  refine ⟨hj, ?_⟩
  unfold nameOf
  have h0 : ¬ ((j : Int) < 0 ∨ 9 ≤ (j : Int)) := by omega
  rw [if_neg h0]
  simp [List.getD, h]

theorem find_spec (s : ByteArray) : (indexOf nms s 0 = -1 ∧ fnd s 9 = false) ∨ ∃ j : Nat, j < 9 ∧ indexOf nms s 0 = (j : Int) ∧ (nameOf (j : Int)).toList = s.toList ∧ fnd s 9 = true := by
  rcases indexOf_spec s nms 0 with ⟨h1, h2⟩ | ⟨j, h1, x, h2, h3⟩
  · left
    refine ⟨h1, ?_⟩
    rw [Bool.eq_false_iff]
    intro hf
    obtain ⟨k, hk, e⟩ := (fnd_iff s 9).1 hf
    have hk2 : k < nms.length := by simpa [nms] using hk
    obtain ⟨_, e2⟩ := nameOf_get (List.getElem?_eq_getElem hk2)
    rw [e2] at e
    exact h2 _ (List.getElem_mem hk2) e
  · right
    obtain ⟨hj, e⟩ := nameOf_get h2
    exact ⟨j, hj, by simpa using h1, by rw [e]; exact h3, (fnd_iff s 9).2 ⟨j, hj, by rw [e]; exact h3⟩⟩

theorem name_ne (j : Nat) (hj : j < 9) : (nameOf (j : Int)).toList ≠ [] := by
  rcases (by omega : j = 0 ∨ j = 1 ∨ j = 2 ∨ j = 3 ∨ j = 4 ∨ j = 5 ∨ j = 6 ∨ j = 7 ∨ j = 8) with rfl | rfl | rfl | rfl | rfl | rfl | rfl | rfl | rfl <;> simp [nameOf, nms]

theorem index_name (j : Nat) (hj : j < 9) : indexOf nms (nameOf (j : Int)) 0 = (j : Int) := by
  rcases (by omega : j = 0 ∨ j = 1 ∨ j = 2 ∨ j = 3 ∨ j = 4 ∨ j = 5 ∨ j = 6 ∨ j = 7 ∨ j = 8) with rfl | rfl | rfl | rfl | rfl | rfl | rfl | rfl | rfl <;> simp [nameOf, nms, indexOf]

theorem find_name (j : Nat) (hj : j < 9) : findOf (nameOf (j : Int)) = (j : Int) := by
  unfold findOf
  rw [index_name j hj, if_neg (by omega)]

/-- Each word is of one field. -/
theorem word_field {n : Int} (h : 0 ≤ n ∧ n < 16) : place (ofField n) + (if ofHigh n then 1 else 0) = n ∧ (ofHigh n = true → width (ofField n) = 64) := by
  have hh : n = 0 ∨ n = 1 ∨ n = 2 ∨ n = 3 ∨ n = 4 ∨ n = 5 ∨ n = 6 ∨ n = 7 ∨ n = 8 ∨ n = 9 ∨ n = 10 ∨ n = 11 ∨ n = 12 ∨ n = 13 ∨ n = 14 ∨ n = 15 := by omega
  rcases hh with rfl | rfl | rfl | rfl | rfl | rfl | rfl | rfl | rfl | rfl | rfl | rfl | rfl | rfl | rfl | rfl <;> decide

end Go.Proofs.Ytpneikbihcoaaaa.Vm

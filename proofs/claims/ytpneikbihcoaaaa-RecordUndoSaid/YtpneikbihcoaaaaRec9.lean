/- A field that is set twice, set back, and two fields that are set in either order. -/
import Derived.Test.YtpneikbihcoaaaaRec7
open Go Go.Proofs Go.Proofs.Ytpneikbihcoaaaa
namespace Go.Proofs.Ytpneikbihcoaaaa.Vm
set_option linter.unusedVariables false
set_option linter.unusedSimpArgs false

theorem withOk_iff {f v : Int} : withOk f v = true ↔ 0 ≤ f ∧ f < 9 ∧ (1 < f ∨ v < 4294967296) := by simp [withOk]

theorem place_of {f : Int} (h0 : 0 ≤ f) (h1 : f < 9) : (f < 2 ∧ place f = f) ∨ (2 ≤ f ∧ place f = 2 * f - 2) := by
  unfold place
  rw [if_neg (by omega)]
  by_cases h : f < 2
  · rw [if_pos h]; exact .inl ⟨h, rfl⟩
  · rw [if_neg h]; exact .inr ⟨by omega, rfl⟩

theorem withR_of {r : Nat → Int} {f v : Int} (h : withOk f v = true) (j : Nat) :
    withR r f v j = if (j : Int) = place f then v % 4294967296 else if 1 < f ∧ (j : Int) = place f + 1 then v / 4294967296 else r j := by
  simp only [withR, h, if_true]

theorem field_of {r : Nat → Int} {f : Int} (h0 : 0 ≤ f) (h1 : f < 9) : (f < 2 ∧ field r f = r (place f).toNat) ∨ (2 ≤ f ∧ field r f = r (place f).toNat + 4294967296 * r (place f + 1).toNat) := by
  unfold field
  rw [if_neg (by omega)]
  rcases place_of h0 h1 with ⟨h, e⟩ | ⟨h, e⟩
  · rw [if_pos h, e]; exact .inl ⟨h, rfl⟩
  · rw [if_neg (by omega), e, show 2 * f - 2 + 1 = 2 * f - 1 by omega]; exact .inr ⟨h, rfl⟩

theorem field_ok {r : Nat → Int} (hr : OkR r) {f : Int} : 0 ≤ field r f ∧ field r f < 18446744073709551616 ∧ (f < 2 → field r f < 4294967296) := by
  unfold field
  have h1 := hr f.toNat; have h2 := hr (2 * f - 2).toNat; have h3 := hr (2 * f - 1).toNat
  split
  · omega
  · split <;> omega

theorem withR_ok {r : Nat → Int} (hr : OkR r) {f v : Int} (hv : 0 ≤ v ∧ v < 18446744073709551616) : OkR (withR r f v) := fun j => by
  have := hr j
  simp only [withR]
  split
  · split
    · omega
    · split <;> omega
  · omega

theorem with_back (r : Nat → Int) (hr : OkR r) (f v : Int) (h : withOk f v = true) : eqR (withR (withR r f v) f (field r f)) r = true := by
  obtain ⟨h0, h1, _⟩ := withOk_iff.1 h
  have hk := field_ok hr (f := f)
  have h2 : withOk f (field r f) = true := withOk_iff.2 ⟨h0, h1, by omega⟩
  rw [eqR_iff]
  intro j hj
  rw [withR_of h2, withR_of h]
  have ha := hr (place f).toNat
  have hb := hr (place f + 1).toNat
  by_cases e1 : (j : Int) = place f
  · rw [if_pos e1]
    have ej : (place f).toNat = j := by omega
    rcases field_of (r := r) h0 h1 with ⟨_, e⟩ | ⟨_, e⟩ <;> rw [e] <;> rw [ej] at ha ⊢ <;> omega
  · rw [if_neg e1]
    by_cases e2 : 1 < f ∧ (j : Int) = place f + 1
    · rw [if_pos e2]
      have ej : (place f + 1).toNat = j := by omega
      rcases field_of (r := r) h0 h1 with ⟨hc, e⟩ | ⟨_, e⟩
      · omega
      · rw [e, ej]; rw [ej] at hb; omega
    · rw [if_neg e2, if_neg e1, if_neg e2]

theorem with_twice (r : Nat → Int) (f v w : Int) (h : withOk f v = true) (h2 : withOk f w = true) : eqR (withR (withR r f v) f w) (withR r f w) = true := by
  rw [eqR_iff]
  intro j hj
  rw [withR_of h2, withR_of h2, withR_of h]
  by_cases e1 : (j : Int) = place f
  · rw [if_pos e1, if_pos e1]
  · by_cases e2 : 1 < f ∧ (j : Int) = place f + 1
    · rw [if_neg e1, if_pos e2, if_neg e1, if_pos e2]
    · rw [if_neg e1, if_neg e2, if_neg e1, if_neg e2, if_neg e1, if_neg e2]

theorem with_comm (r : Nat → Int) (f g v w : Int) (hne : f ≠ g) (h : withOk f v = true) (h2 : withOk g w = true) : eqR (withR (withR r f v) g w) (withR (withR r g w) f v) = true := by
  obtain ⟨f0, f1, _⟩ := withOk_iff.1 h
  obtain ⟨g0, g1, _⟩ := withOk_iff.1 h2
  have pf := place_of f0 f1
  have pg := place_of g0 g1
  rw [eqR_iff]
  intro j hj
  rw [withR_of h2, withR_of h, withR_of h, withR_of h2]
  by_cases e1 : (j : Int) = place f
  · rw [if_pos e1, if_neg (by omega), if_neg (by omega), if_pos e1]
  · by_cases e2 : 1 < f ∧ (j : Int) = place f + 1
    · rw [if_neg e1, if_pos e2, if_neg (by omega), if_neg (by omega), if_neg e1, if_pos e2]
    · rw [if_neg e1, if_neg e2, if_neg e1, if_neg e2]

end Go.Proofs.Ytpneikbihcoaaaa.Vm

/- A record is all its fields: the plain law. -/
import Derived.Test.YtpneikbihcoaaaaRec9
import Derived.Test.YtpneikbihcoaaaaRec11
open Go Go.Proofs Go.Proofs.Ytpneikbihcoaaaa
namespace Go.Proofs.Ytpneikbihcoaaaa.Vm
set_option linter.unusedVariables false
set_option linter.unusedSimpArgs false

/-- Are the first fields the same? -/
def sm (a b : Nat → Int) : Nat → Bool
  | 0 => true
  | i + 1 => sm a b i && (field a i == field b i)
/-- A record that is made of the first fields. -/
def CC (a : Nat → Int) : Nat → Nat → Int
  | 0 => fun _ => 0
  | i + 1 => withR (CC a i) i (field a i)

theorem field_with {a : Nat → Int} (ha : OkR a) {i : Nat} (h : i < 9) : withOk i (field a i) = true := by
  have := field_ok ha (f := i)
  exact withOk_iff.2 ⟨by omega, by omega, by omega⟩

theorem CC_ok {a : Nat → Int} (ha : OkR a) : ∀ i, OkR (CC a i)
  | 0 => fun j => by simp [CC]
  | i + 1 => withR_ok (CC_ok ha i) ⟨(field_ok ha).1, (field_ok ha).2.1⟩

theorem CC_at {a : Nat → Int} (ha : OkR a) : ∀ i, i ≤ 9 → ∀ j, j < 16 → CC a i j = if (if j < 2 then j else (j + 2) / 2) < i then a j else 0
  | 0, _, j, _ => by simp [CC]
  | i + 1, h, j, hj => by
    have ih := CC_at ha i (by omega) j hj
    simp only [CC]
    rw [withR_of (field_with ha (by omega)), ih]
    have hp := place_of (f := (i : Int)) (by omega) (by omega)
    have hfk := field_of (r := a) (f := (i : Int)) (by omega) (by omega)
    have h1 := ha (place i).toNat
    have h2 := ha (place i + 1).toNat
    have h3 := ha j
    by_cases e1 : (j : Int) = place i
    · rw [if_pos e1]
      have ej : (place i).toNat = j := by omega
      rw [ej] at hfk h1
      rw [if_pos (by split <;> omega)]
      rcases hfk with ⟨_, e⟩ | ⟨_, e⟩ <;> rw [e] <;> omega
    · by_cases e2 : (1 : Int) < i ∧ (j : Int) = place i + 1
      · rw [if_neg e1, if_pos e2]
        have ej : (place i + 1).toNat = j := by omega
        rw [ej] at hfk h2
        rw [if_pos (by split <;> omega)]
        rcases hfk with ⟨_, e⟩ | ⟨_, e⟩
        · omega
        · rw [e]; omega
      · rw [if_neg e1, if_neg e2]
        congr 1
        rw [eq_iff_iff]
        split <;> omega

theorem CC_all {a : Nat → Int} (ha : OkR a) : eqR (CC a 9) a = true := eqR_iff.2 fun j hj => by
  rw [CC_at ha 9 (by omega) j hj, if_pos (by split <;> omega)]

theorem sm_iff {a b : Nat → Int} : ∀ i, sm a b i = true ↔ ∀ k : Nat, k < i → field a k = field b k
  | 0 => by simp [sm]
  | i + 1 => by
    simp only [sm, Bool.and_eq_true, beq_iff_eq, sm_iff i]
    constructor
    · rintro ⟨h1, h2⟩ k hk
      by_cases e : k = i
      · subst e; exact h2
      · exact h1 k (by omega)
    · intro h
      exact ⟨fun k hk => h k (by omega), h i (by omega)⟩

theorem field_congr {a b : Nat → Int} (h : ∀ j, j < 16 → a j = b j) {k : Nat} (hk : k < 9) : field a k = field b k := by
  unfold field
  have h0 : ¬ ((k : Int) < 0 ∨ 9 ≤ (k : Int)) := by omega
  rw [if_neg h0, if_neg h0]
  by_cases h2 : (k : Int) < 2
  · rw [if_pos h2, if_pos h2, h _ (by omega)]
  · rw [if_neg h2, if_neg h2, h _ (by omega), h _ (by omega)]

theorem sm_all {a b : Nat → Int} (ha : OkR a) (hb : OkR b) : sm a b 9 = eqR a b := by
  rw [Bool.eq_iff_iff, sm_iff, eqR_iff]
  constructor
  · intro h
    have hc : ∀ i, i ≤ 9 → CC a i = CC b i := fun i => by
      induction i with
      | zero => intro _; rfl
      | succ i ih => intro hi; simp only [CC]; rw [ih (by omega), h i (by omega)]
    intro j hj
    have h1 := eqR_iff.1 (CC_all ha) j hj
    have h2 := eqR_iff.1 (CC_all hb) j hj
    rw [← h1, ← h2, hc 9 (by omega)]
  · intro h k hk
    exact field_congr h hk

theorem rb_congr {a b : Nat → Int} : ∀ i, (∀ j, j < i → a j = b j) → rb a i = rb b i
  | 0, _ => rfl
  | i + 1, h => by simp only [rb]; rw [rb_congr i fun j hj => h j (by omega), h i (by omega)]

theorem print_eq {a b : Nat → Int} (ha : OkR a) (hb : OkR b) : ((bytesOf (rb a 16)).toList == (bytesOf (rb b 16)).toList) = eqR a b := by
  rw [Bool.eq_iff_iff, beq_iff_eq, eqR_iff]
  constructor
  · intro h j hj
    have e := ba_ext h
    rw [← wd_rb a ha j hj, ← wd_rb b hb j hj, e]
  · intro h
    rw [rb_congr 16 h]

end Go.Proofs.Ytpneikbihcoaaaa.Vm

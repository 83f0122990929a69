/- A record as bytes, read again; and the answers that the document fixes. -/
import Derived.Test.YtpneikbihcoaaaaRec3
import Derived.Test.YtpneikbihcoaaaaRec5
open Go Go.Proofs Go.Proofs.Ytpneikbihcoaaaa
namespace Go.Proofs.Ytpneikbihcoaaaa.Vm
set_option linter.unusedVariables false
set_option linter.unusedSimpArgs false

theorem rb_get (r : Nat → Int) (j m : Nat) (hm : m < 4) : ∀ i, j < i → (rb r i)[4 * j + m]? = (wb (r j))[m]?
  | 0, h => absurd h (by omega)
  | i + 1, h => by
    simp only [rb]
    by_cases hj : j < i
    · rw [List.getElem?_append_left (by rw [rb_len]; omega)]
      exact rb_get r j m hm i hj
    · have : j = i := by omega
      subst this
      rw [List.getElem?_append_right (by rw [rb_len]; omega), rb_len, show 4 * j + m - 4 * j = m by omega]

theorem byt_rb (r : Nat → Int) (j m : Nat) (hj : j < 16) (hm : m < 4) (n : Int) (hn : (wb (r j))[m]? = some n) (h0 : 0 ≤ n ∧ n < 256) : ((byt (bytesOf (rb r 16)) (4 * j + m)).toNat : Int) = n := by
  have h := rb_get r j m hm 16 hj
  unfold byt bytesOf
  simp only [List.getElem?_toArray, List.getElem?_map, h, hn, Option.map_some, Option.getD_some]
  rw [UInt8.toNat_ofNat']
  have : n.toNat % 2 ^ 8 = n.toNat := Nat.mod_eq_of_lt (by omega)
  rw [this]; omega

theorem size_rb (r : Nat → Int) : (bytesOf (rb r 16)).size = 64 := by
  unfold bytesOf
  show (List.toArray _).size = 64
  simp

theorem wd_rb (r : Nat → Int) (hr : OkR r) (j : Nat) (hj : j < 16) : wd (bytesOf (rb r 16)) j = r j := by
  have h := hr j
  have h0 := byt_rb r j 0 hj (by omega) _ rfl ⟨by omega, by omega⟩
  have h1 := byt_rb r j 1 hj (by omega) _ rfl ⟨by omega, by omega⟩
  have h2 := byt_rb r j 2 hj (by omega) _ rfl ⟨by omega, by omega⟩
  have h3 := byt_rb r j 3 hj (by omega) _ rfl ⟨by omega, by omega⟩
  unfold wd
  simp only [Nat.add_zero] at h0
  rw [h0, h1, h2, h3]
  omega

theorem readR_rb (r : Nat → Int) (hr : OkR r) : RL (readR (bytesOf (rb r 16))) = RL r := RL_congr fun j hj => by
  simp only [readR, size_rb, if_true]; exact wd_rb r hr j hj
theorem readE_rb (r : Nat → Int) : readE (bytesOf (rb r 16)) = 0 := by simp [readE, size_rb]

/-- Are two records the same? -/
def eqR (r q : Nat → Int) : Bool :=
  r 0 == q 0 && (r 1 == q 1 && (r 2 == q 2 && (r 3 == q 3 && (r 4 == q 4 && (r 5 == q 5 && (r 6 == q 6 && (r 7 == q 7 && (r 8 == q 8 && (r 9 == q 9 && (r 10 == q 10 && (r 11 == q 11 && (r 12 == q 12 && (r 13 == q 13 && (r 14 == q 14 && (r 15 == q 15)))))))))))))))

theorem eqAVs_RL (r q : Nat → Int) : eqAVs (RL r) (RL q) = some (eqR r q) := by
  simp only [RL, eqAVs, eqAV, if_true, Option.bind_some, Option.map_some, Bool.and_true, eqR]

theorem eqR_iff {r q : Nat → Int} : eqR r q = true ↔ ∀ j, j < 16 → r j = q j := by
  simp only [eqR, Bool.and_eq_true, beq_iff_eq]
  constructor
  · rintro ⟨h0, h1, h2, h3, h4, h5, h6, h7, h8, h9, h10, h11, h12, h13, h14, h15⟩ j hj
    rcases (by omega : j = 0 ∨ j = 1 ∨ j = 2 ∨ j = 3 ∨ j = 4 ∨ j = 5 ∨ j = 6 ∨ j = 7 ∨ j = 8 ∨ j = 9 ∨ j = 10 ∨ j = 11 ∨ j = 12 ∨ j = 13 ∨ j = 14 ∨ j = 15) with
      rfl | rfl | rfl | rfl | rfl | rfl | rfl | rfl | rfl | rfl | rfl | rfl | rfl | rfl | rfl | rfl <;> assumption
  · intro h
    exact ⟨h 0 (by omega), h 1 (by omega), h 2 (by omega), h 3 (by omega), h 4 (by omega), h 5 (by omega), h 6 (by omega), h 7 (by omega), h 8 (by omega), h 9 (by omega), h 10 (by omega), h 11 (by omega), h 12 (by omega), h 13 (by omega), h 14 (by omega), h 15 (by omega)⟩

@[simp] theorem plain24 (r : Nat → Int) : plainFit Try.prog 64 24 (.agg (RL r)) = true := by kernel_rfl
@[simp] theorem plain24' (a0 a1 a2 a3 a4 a5 a6 a7 a8 a9 a10 a11 a12 a13 a14 a15 : Int) : plainFit Try.prog 64 24 (.agg [.int .u32 a0, .int .u32 a1, .int .u32 a2, .int .u32 a3, .int .u32 a4, .int .u32 a5, .int .u32 a6, .int .u32 a7,
    .int .u32 a8, .int .u32 a9, .int .u32 a10, .int .u32 a11, .int .u32 a12, .int .u32 a13, .int .u32 a14, .int .u32 a15]) = true := by kernel_rfl
@[simp] theorem eqg24 : Try.prog.eqGuardType Try.prog.depth 24 = false := by kernel_rfl

end Go.Proofs.Ytpneikbihcoaaaa.Vm

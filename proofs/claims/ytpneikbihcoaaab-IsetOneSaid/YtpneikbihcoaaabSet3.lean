/- What is in both, in one of both, not in a set; at the edges. -/
import Derived.Test.YtpneikbihcoaaabSet2
import Derived.Test.YtpneikbihcoaaabIset8
import Derived.Test.YtpneikbihcoaaabIset11
namespace Go.Proofs.Ytpneikbihcoaaab.Vm

theorem edges_ok {a b : List Sp} {n : Int} (ha : OkS a) (hb : OkS b) (hn : 0 ≤ n ∧ n < 18446744073709551616) : ∀ x ∈ edgesS a b n, 0 ≤ x ∧ x < 18446744073709551616 := fun x hx => by
  have one : ∀ s : Sp, ((0 ≤ s.1 ∧ s.1 < 18446744073709551616) ∧ 0 ≤ s.2 ∧ s.2 < 18446744073709551616) → x ∈ edge s → 0 ≤ x ∧ x < 18446744073709551616 := fun s hs h => by
    simp only [edge, List.mem_cons, List.not_mem_nil, or_false] at h
    rcases h with rfl | rfl | rfl | rfl <;> omega
  simp only [edgesS, List.mem_append, List.mem_flatMap] at hx
  rcases hx with (h | ⟨s, hs, h⟩) | ⟨s, hs, h⟩
  · simp only [List.mem_cons, List.not_mem_nil, or_false] at h
    rcases h with rfl | rfl | rfl | rfl | rfl <;> omega
  · exact one s (ha s hs) h
  · exact one s (hb s hs) h

section
variable {a b : List Sp} {x : Int} (hx : 0 ≤ x ∧ x < 18446744073709551616)
include hx
theorem has_and : hasS (andS a b) x = (hasS a x && hasS b x) := by
  rw [Bool.eq_iff_iff, Bool.and_eq_true, hasS_iff, hasS_iff, hasS_iff, and_mem]
  exact ⟨fun h => h.1, fun h => ⟨h, by unfold topS; omega⟩⟩
theorem has_or : hasS (orS a b) x = (hasS a x || hasS b x) := by
  rw [Bool.eq_iff_iff, Bool.or_eq_true, hasS_iff, hasS_iff, hasS_iff, or_mem]
  exact ⟨fun h => h.1, fun h => ⟨h, by unfold topS; omega⟩⟩
theorem has_not (ha : OkS a) : hasS (notW 64 a) x = !hasS a x := by
  rw [notW64, Bool.eq_iff_iff, Bool.not_eq_true', ← Bool.not_eq_true, hasS_iff, hasS_iff, not_mem (by decide) (okS_low ha)]
  exact ⟨fun h => h.2, fun h => ⟨⟨hx.1, by unfold topS; omega⟩, h⟩⟩
theorem has_narrow (ha : OkS a) : hasS (notW 32 a) x = (!hasS a x && decide (x < 4294967296)) := by
  rw [show notW 32 a = notS 4294967295 a from rfl, Bool.eq_iff_iff, Bool.and_eq_true, Bool.not_eq_true', ← Bool.not_eq_true, hasS_iff, hasS_iff, not_mem (by decide) (okS_low ha), decide_eq_true_eq]
  constructor
  · rintro ⟨h1, h2⟩; exact ⟨h2, by omega⟩
  · rintro ⟨h1, h2⟩; exact ⟨by omega, h1⟩
end

theorem right64 {l : List Sp} (h : Form topS l) : (okW 64 && rightS (topR 64) l) = true := by
  rw [show okW 64 = true from rfl, Bool.true_and, right_iff]; exact h
theorem right32 {l : List Sp} (h : Form 4294967295 l) : (okW 32 && rightS (topR 32) l) = true := by
  rw [show okW 32 = true from rfl, Bool.true_and, right_iff]; exact h

theorem ofL_mem {op k x : Int} (hx : 0 ≤ x ∧ x < 18446744073709551616) : hasS (ofL op k) x = ofB op k x := by
  rw [Bool.eq_iff_iff, hasS_iff]
  unfold ofL ofB
  by_cases h1 : op = 16
  · simp only [h1, if_true, MemS.cons, beq_iff_eq]
    exact ⟨fun h => h.elim (fun h => by omega) fun h => absurd h MemS.nil, fun h => .inl (by omega)⟩
  · rw [if_neg h1, if_neg h1]
    by_cases h2 : op = 32
    · rw [if_pos h2, if_pos h2, decide_eq_true_eq]
      by_cases h3 : k = 18446744073709551615
      · rw [if_pos h3]
        exact ⟨fun h => absurd h MemS.nil, fun h => by omega⟩
      · rw [if_neg h3, MemS.cons]
        exact ⟨fun h => h.elim (fun h => by simp only at h; omega) fun h => absurd h MemS.nil, fun h => .inl (by simp only; omega)⟩
    · rw [if_neg h2, if_neg h2]
      by_cases h3 : op = 48
      · rw [if_pos h3, if_pos h3, decide_eq_true_eq, MemS.cons]
        exact ⟨fun h => h.elim (fun h => by simp only at h; omega) fun h => absurd h MemS.nil, fun h => .inl (by simp only; omega)⟩
      · rw [if_neg h3, if_neg h3]
        exact ⟨fun h => absurd h MemS.nil, fun h => by cases h⟩

theorem has_wide {op k x : Int} (hx : 0 ≤ x ∧ x < 18446744073709551616) : hasS (normW 64 (ofL op k)) x = ofB op k x := by
  rw [← ofL_mem hx, Bool.eq_iff_iff, hasS_iff, hasS_iff, normW64, norm_mem]
  exact ⟨fun h => h.1, fun h => ⟨h, by unfold topS; omega⟩⟩
theorem has_small {op k x : Int} (hx : 0 ≤ x ∧ x < 18446744073709551616) : hasS (normW 32 (ofL op k)) x = (ofB op k x && decide (x < 4294967296)) := by
  rw [← ofL_mem hx, Bool.eq_iff_iff, Bool.and_eq_true, hasS_iff, hasS_iff, show normW 32 (ofL op k) = normS 4294967295 (ofL op k) from rfl, norm_mem, decide_eq_true_eq]
  exact ⟨fun h => ⟨h.1, by omega⟩, fun h => ⟨h.1, by omega⟩⟩

theorem okS_ofL {op k : Int} (hk : 0 ≤ k ∧ k < 18446744073709551616) : OkS (ofL op k) := by
  intro s hs
  unfold ofL at hs
  split at hs
  · simp at hs; subst hs; exact ⟨hk, hk⟩
  · split at hs
    · split at hs
      · cases hs
      · simp at hs; subst hs; simp only; omega
    · split at hs
      · simp at hs; subst hs; simp only; omega
      · cases hs
theorem ofL_len (op k : Int) : (ofL op k).length ≤ 1 := by
  unfold ofL
  split
  · simp
  · split
    · split <;> simp
    · split <;> simp

end Go.Proofs.Ytpneikbihcoaaab.Vm

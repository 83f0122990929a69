/- Two sets' forms are the same just if their edges are. -/
import Derived.Test.YtpneikbihcoaaabSet3
namespace Go.Proofs.Ytpneikbihcoaaab.Vm
set_option linter.unusedVariables false

theorem one_ext {m : Int} : ∀ {x y : List Sp}, Form m x → Form m y → (∀ u, u ∈ x ∨ u ∈ y → (MemS x u.1 ↔ MemS y u.1) ∧ (u.2 < m → (MemS x (u.2 + 1) ↔ MemS y (u.2 + 1)))) → x = y
  | [], [], _, _, _ => rfl
  | [], t :: q, _, hy, h => absurd ((h t (.inr (by simp))).1.2 ⟨t, by simp, Int.le_refl _, hy.head.1⟩) MemS.nil
  | s :: r, [], hx, _, h => absurd ((h s (.inl (by simp))).1.1 ⟨s, by simp, Int.le_refl _, hx.head.1⟩) MemS.nil
  | s :: r, t :: q, hx, hy, h => by
    have hs := hx.head
    have ht := hy.head
    have e1 : s.1 = t.1 := by
      have h1 := hy.ge ((h s (.inl (by simp))).1.1 ⟨s, by simp, Int.le_refl _, hs.1⟩)
      have h2 := hx.ge ((h t (.inr (by simp))).1.2 ⟨t, by simp, Int.le_refl _, ht.1⟩)
      omega
    have out : ∀ {s : Sp} {r : List Sp}, Form m (s :: r) → ¬ MemS (s :: r) (s.2 + 1) := fun hf hm => by
      rcases MemS.cons.1 hm with h1 | h1
      · omega
      · have := hf.lt h1; omega
    have e2 : s.2 = t.2 := by
      rcases Int.lt_trichotomy s.2 t.2 with h1 | h1 | h1
      · exact absurd (((h s (.inl (by simp))).2 (by omega)).2 ⟨t, by simp, by omega, by omega⟩) (out hx)
      · exact h1
      · exact absurd (((h t (.inr (by simp))).2 (by omega)).1 ⟨s, by simp, by omega, by omega⟩) (out hy)
    have e : s = t := Prod.ext e1 e2
    subst e
    congr 1
    have tail : ∀ {r : List Sp} {n : Int}, s.2 < n → (MemS (s :: r) n ↔ MemS r n) := fun hn => by
      rw [MemS.cons]
      exact ⟨fun g => g.elim (fun g => by omega) id, .inr⟩
    refine one_ext hx.tail hy.tail fun u hu => ?_
    have hlt : s.2 + 1 < u.1 ∧ u.1 ≤ u.2 := by
      rcases hu with hu | hu
      · exact ⟨(List.pairwise_cons.1 hx.1).1 u hu, (hx.2 u (by simp [hu])).1⟩
      · exact ⟨(List.pairwise_cons.1 hy.1).1 u hu, (hy.2 u (by simp [hu])).1⟩
    have h3 := h u (by rcases hu with hu | hu <;> simp [hu])
    refine ⟨?_, fun hm => ?_⟩
    · have := h3.1
      rwa [tail (by omega), tail (by omega)] at this
    · have := h3.2 hm
      rwa [tail (by omega), tail (by omega)] at this

theorem edges_mem {x y : List Sp} {n : Int} {u : Sp} (hu : u ∈ x ∨ u ∈ y) : u.1 ∈ edgesS x y n ∧ (u.2 + 1) % 18446744073709551616 ∈ edgesS x y n := by
  have h1 : u.1 ∈ edge u ∧ (u.2 + 1) % 18446744073709551616 ∈ edge u := by simp [edge]
  simp only [edgesS, List.mem_append, List.mem_flatMap]
  rcases hu with hu | hu
  · exact ⟨.inl (.inr ⟨u, hu, h1.1⟩), .inl (.inr ⟨u, hu, h1.2⟩)⟩
  · exact ⟨.inr ⟨u, hu, h1.1⟩, .inr ⟨u, hu, h1.2⟩⟩

theorem one_law_plain {a b : List Sp} (ha : OkS a) (hb : OkS b) :
    ((edgesS (normW 64 a) (normW 64 b) 0).any fun n => hasS a n != hasS b n) = !sameS (normW 64 a) (normW 64 b) := by
  have ox : OkS (normW 64 a) := okS_norm ha
  have oy : OkS (normW 64 b) := okS_norm hb
  have hE := edges_ok (n := 0) ox oy (by omega)
  have hx : ∀ {l : List Sp} {n : Int}, 0 ≤ n ∧ n < 18446744073709551616 → hasS (normW 64 l) n = hasS l n := fun hn => by
    rw [Bool.eq_iff_iff, hasS_iff, hasS_iff, normW64, norm_mem]
    exact ⟨fun h => h.1, fun h => ⟨h, by unfold topS; omega⟩⟩
  by_cases h : normW 64 a = normW 64 b
  · have e : sameS (normW 64 a) (normW 64 b) = true := same_eq h
    rw [e, Bool.not_true, List.any_eq_false]
    intro n hn
    have := hE n hn
    rw [← hx (l := a) this, ← hx (l := b) this, h]
    simp
  · have e : sameS (normW 64 a) (normW 64 b) = false := by simp [sameS, h]
    rw [e, Bool.not_false]
    apply Classical.byContradiction
    intro hc
    rw [Bool.not_eq_true, List.any_eq_false] at hc
    have agree : ∀ n ∈ edgesS (normW 64 a) (normW 64 b) 0, (MemS (normW 64 a) n ↔ MemS (normW 64 b) n) := fun n hn => by
      have h1 := hc n hn
      have h2 := hE n hn
      rw [← hasS_iff, ← hasS_iff, hx h2, hx h2]
      simp only [bne_iff_ne, ne_eq, Classical.not_not] at h1
      rw [h1]
    refine h (one_ext (m := topS) (norm_form _ _) (norm_form _ _) fun u hu => ⟨agree _ (edges_mem hu).1, fun hm => ?_⟩)
    have h1 := agree _ (edges_mem (n := 0) hu).2
    have h2 : 0 ≤ u.1 ∧ u.1 ≤ u.2 := by
      rcases hu with hu | hu
      · exact ⟨(ox u hu).1.1, ((norm_form topS a).2 u hu).1⟩
      · exact ⟨(oy u hu).1.1, ((norm_form topS b).2 u hu).1⟩
    rwa [show (u.2 + 1) % 18446744073709551616 = u.2 + 1 by unfold topS at hm; omega] at h1

theorem any_step {E : List Int} {p : Int → Bool} {i : Nat} (h : i < E.length) : (E.take (i + 1)).any p = ((E.take i).any p || p (E.getD i 0)) := by
  rw [List.take_add_one, List.any_append]
  simp [List.getD, h]

end Go.Proofs.Ytpneikbihcoaaab.Vm

/- Arguments that are sets. -/
import Derived.Test.YtpneikbihcoaaabIset2
import Derived.Test.YtpneikbihcoaaabVm25
open Go Go.Proofs Go.Proofs.Ytpneikbihcoaaab
namespace Go.Proofs.Ytpneikbihcoaaab.Vm

theorem fits_span {d : Nat} {x : AV} (h : Fits Try.prog (d + 2) 38 x) : ∃ s : Sp, x = spA s ∧ (0 ≤ s.1 ∧ s.1 < 18446744073709551616) ∧ 0 ≤ s.2 ∧ s.2 < 18446744073709551616 := by
  obtain ⟨xs, rfl, hl, hall⟩ := Fits.struct Try.underlying38 h
  match xs, hl with
  | [a, b], _ =>
    obtain ⟨m, rfl, hm⟩ := Fits.int Try.underlying23 (hall 0 _ a rfl rfl)
    obtain ⟨n, rfl, hn⟩ := Fits.int Try.underlying23 (hall 1 _ b rfl rfl)
    exact ⟨(m, n), rfl, wf_u64 hm, wf_u64 hn⟩

theorem spans_of {d : Nat} : ∀ xs : List AV, (∀ y ∈ xs, Fits Try.prog (d + 2) 38 y) → ∃ l : List Sp, xs = spL l ∧ OkS l
  | [], _ => ⟨[], rfl, fun s hs => by cases hs⟩
  | x :: xs, h => by
    obtain ⟨s, rfl, hs⟩ := fits_span (h x (by simp))
    obtain ⟨l, rfl, hl⟩ := spans_of xs fun y hy => h y (by simp [hy])
    refine ⟨s :: l, rfl, fun t ht => ?_⟩
    rcases List.mem_cons.1 ht with h1 | h1
    · rw [h1]; exact hs
    · exact hl t h1

theorem fits_spans {x : AV} (h : Fits Try.prog 12 22 x) : ∃ l : List Sp, x = .slice (spL l) ∧ OkS l := by
  obtain ⟨xs, rfl, _, hall⟩ := Fits.slice Try.underlying22 h
  obtain ⟨l, rfl, hl⟩ := spans_of (d := 9) xs fun y hy => (hall y hy).1
  exact ⟨l, rfl, hl⟩

end Go.Proofs.Ytpneikbihcoaaab.Vm

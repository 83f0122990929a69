/- An argument that is a record. -/
import Derived.Test.YtpneikbihcoaaaaRec2
import Derived.Test.YtpneikbihcoaaaaVm25
open Go Go.Proofs Go.Proofs.Ytpneikbihcoaaaa
namespace Go.Proofs.Ytpneikbihcoaaaa.Vm

theorem fits_rec {d : Nat} {x : AV} (h : Fits Try.prog (d + 2) 24 x) : ∃ r, OkR r ∧ x = RA r := by
  obtain ⟨xs, rfl, hl, hall⟩ := Fits.array Try.underlying24 h
  have hget : ∀ i, i < 16 → ∃ n, xs[i]? = some (.int .u32 n) ∧ 0 ≤ n ∧ n < 4294967296 := fun i hi => by
    have hi' : i < xs.length := by omega
    obtain ⟨n, h1, h2⟩ := Fits.int Try.underlying22 (hall xs[i] (List.getElem_mem hi'))
    exact ⟨n, by rw [List.getElem?_eq_getElem hi', h1], wf_u32 h2⟩
  refine ⟨fun i => match xs[i]? with | some (.int _ n) => n | _ => 0, fun i => ?_, ?_⟩
  · by_cases hi : i < 16
    · obtain ⟨n, h1, h2⟩ := hget i hi
      simp only [h1]; exact h2
    · have : xs[i]? = none := List.getElem?_eq_none (by omega)
      simp only [this]; omega
  · unfold RA
    congr 1
    apply List.ext_getElem?
    intro i
    by_cases hi : i < 16
    · obtain ⟨n, h1, _⟩ := hget i hi
      rw [RL_get _ i hi, h1]
    · rw [List.getElem?_eq_none (by omega), List.getElem?_eq_none (by rw [RL_len]; omega)]

end Go.Proofs.Ytpneikbihcoaaaa.Vm

/- The law of setting fields, for all arguments that fit. -/
import Derived.Test.YtpneikbihcoaaaaRec10
import Derived.Test.YtpneikbihcoaaaaRecF
open Go Go.Proofs Go.Proofs.Ytpneikbihcoaaaa
namespace Go.Proofs.Ytpneikbihcoaaaa.Vm

theorem said_recordUndo {x : AV} (hx : Fits Try.prog 12 51 x) : ACall Try.prog 8 [x] [] (Is (.bool true) []) := by
  obtain ⟨xs, rfl, hl, hall⟩ := Fits.struct Try.underlying51 hx
  match xs, hl with
  | [a, b, c, d, e], _ =>
    obtain ⟨r, hr, rfl⟩ := fits_rec (d := 9) (hall 0 _ a rfl rfl)
    obtain ⟨f, rfl, _⟩ := Fits.int Try.underlying3 (hall 1 _ b rfl rfl)
    obtain ⟨g, rfl, _⟩ := Fits.int Try.underlying3 (hall 2 _ c rfl rfl)
    obtain ⟨v, rfl, hv⟩ := Fits.int Try.underlying25 (hall 3 _ d rfl rfl)
    obtain ⟨w, rfl, hw⟩ := Fits.int Try.underlying25 (hall 4 _ e rfl rfl)
    exact undo_law r hr f g v w (wf_u64 hv) (wf_u64 hw) [] WFL.nil

end Go.Proofs.Ytpneikbihcoaaaa.Vm

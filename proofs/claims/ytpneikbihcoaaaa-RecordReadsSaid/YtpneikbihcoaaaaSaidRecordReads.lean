/- The law of reading, for all arguments that fit. -/
import Derived.Test.YtpneikbihcoaaaaRec11
import Derived.Test.YtpneikbihcoaaaaRecF
open Go Go.Proofs Go.Proofs.Ytpneikbihcoaaaa
namespace Go.Proofs.Ytpneikbihcoaaaa.Vm

theorem said_recordReads {x y : AV} (hx : Fits Try.prog 12 9 x) (hy : Fits Try.prog 12 24 y) : ACall Try.prog 5 [x, y] [] (Is (.bool true) []) := by
  obtain ⟨s, rfl, _⟩ := Fits.str Try.underlying9 hx
  obtain ⟨r, hr, rfl⟩ := fits_rec hy
  exact reads_law s r hr [] WFL.nil

end Go.Proofs.Ytpneikbihcoaaaa.Vm

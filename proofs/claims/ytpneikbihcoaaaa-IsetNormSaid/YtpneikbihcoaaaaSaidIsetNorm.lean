/- The law of Norm, for all arguments that fit. -/
import Derived.Test.YtpneikbihcoaaaaWalkIsetNorm
import Derived.Test.YtpneikbihcoaaaaIsetF
open Go Go.Proofs Go.Proofs.Ytpneikbihcoaaaa
namespace Go.Proofs.Ytpneikbihcoaaaa.Vm

theorem said_isetNorm {x y z : AV} (hx : Fits Try.prog 12 53 x) (hy : Fits Try.prog 12 25 y) (hz : Fits Try.prog 12 3 z) :
    ACall Try.prog 9 [x, y, z] [] (Is (.bool true) []) := by
  obtain ⟨a, rfl, ha⟩ := fits_spans hx
  obtain ⟨n, rfl, _⟩ := Fits.int Try.underlying25 hy
  obtain ⟨w, rfl, _⟩ := Fits.int Try.underlying3 hz
  exact norm_law a ha n w [] WFL.nil

end Go.Proofs.Ytpneikbihcoaaaa.Vm

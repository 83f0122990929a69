/- The law of the fields' names, places and widths, for all arguments that fit. -/
import Derived.Test.YtpneikbihcoaaaaRec16
import Derived.Test.YtpneikbihcoaaaaVm25
open Go Go.Proofs Go.Proofs.Ytpneikbihcoaaaa
namespace Go.Proofs.Ytpneikbihcoaaaa.Vm

theorem said_recordFields {x y z : AV} (hx : Fits Try.prog 12 3 x) (hy : Fits Try.prog 12 3 y) (hz : Fits Try.prog 12 9 z) : ACall Try.prog 4 [x, y, z] [] (Is (.bool true) []) := by
  obtain ⟨f, rfl, _⟩ := Fits.int Try.underlying3 hx
  obtain ⟨n, rfl, _⟩ := Fits.int Try.underlying3 hy
  obtain ⟨s, rfl, _⟩ := Fits.str Try.underlying9 hz
  exact fields_law f n s [] WFL.nil

end Go.Proofs.Ytpneikbihcoaaaa.Vm

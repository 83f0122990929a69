/- The law of how many numbers are in a set, for all arguments that fit. -/
import Derived.Test.YtpneikbihcoaaaaWalkIsetCount
import Derived.Test.YtpneikbihcoaaaaIsetF
open Go Go.Proofs Go.Proofs.Ytpneikbihcoaaaa
namespace Go.Proofs.Ytpneikbihcoaaaa.Vm

theorem said_isetCount {x y : AV} (hx : Fits Try.prog 12 53 x) (hy : Fits Try.prog 12 53 y) :
    ACall Try.prog 13 [x, y] [] (Is (.bool true) []) := by
  obtain ⟨a, rfl, ha⟩ := fits_spans hx
  obtain ⟨b, rfl, hb⟩ := fits_spans hy
  exact count_law a b ha hb [] WFL.nil

end Go.Proofs.Ytpneikbihcoaaaa.Vm

/- The law of two sets' forms, for all arguments that fit. -/
import Derived.Test.YtpneikbihcoaaabWalkIsetOne
import Derived.Test.YtpneikbihcoaaabIsetF
open Go Go.Proofs Go.Proofs.Ytpneikbihcoaaab
namespace Go.Proofs.Ytpneikbihcoaaab.Vm

theorem said_isetOne {x y : AV} (hx : Fits Try.prog 12 22 x) (hy : Fits Try.prog 12 22 y) :
    ACall Try.prog 4 [x, y] [] (Is (.bool true) []) := by
  obtain ⟨a, rfl, ha⟩ := fits_spans hx
  obtain ⟨b, rfl, hb⟩ := fits_spans hy
  exact one_law a b ha hb [] WFL.nil

end Go.Proofs.Ytpneikbihcoaaab.Vm

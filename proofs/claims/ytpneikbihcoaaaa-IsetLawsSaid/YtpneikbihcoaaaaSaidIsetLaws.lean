/- The law of the algebra of sets, for all arguments that fit. -/
import Derived.Test.YtpneikbihcoaaaaWalkIsetLaws
import Derived.Test.YtpneikbihcoaaaaIsetF
open Go Go.Proofs Go.Proofs.Ytpneikbihcoaaaa
namespace Go.Proofs.Ytpneikbihcoaaaa.Vm

theorem said_isetLaws {x y z : AV} (hx : Fits Try.prog 12 53 x) (hy : Fits Try.prog 12 53 y) (hz : Fits Try.prog 12 53 z) :
    ACall Try.prog 11 [x, y, z] [] (Is (.bool true) []) := by
  obtain ⟨a, rfl, ha⟩ := fits_spans hx
  obtain ⟨b, rfl, hb⟩ := fits_spans hy
  obtain ⟨c, rfl, hc⟩ := fits_spans hz
  exact laws_law a b c ha hb hc [] WFL.nil

end Go.Proofs.Ytpneikbihcoaaaa.Vm

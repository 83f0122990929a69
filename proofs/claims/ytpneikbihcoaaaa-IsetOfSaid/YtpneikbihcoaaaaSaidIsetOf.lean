/- The law of the numbers of which something is so, for all arguments that fit. -/
import Derived.Test.YtpneikbihcoaaaaWalkIsetOf
import Derived.Test.YtpneikbihcoaaaaIsetF
open Go Go.Proofs Go.Proofs.Ytpneikbihcoaaaa
namespace Go.Proofs.Ytpneikbihcoaaaa.Vm

theorem said_isetOf {x y z : AV} (hx : Fits Try.prog 12 3 x) (hy : Fits Try.prog 12 25 y) (hz : Fits Try.prog 12 25 z) :
    ACall Try.prog 12 [x, y, z] [] (Is (.bool true) []) := by
  obtain ⟨op, rfl, _⟩ := Fits.int Try.underlying3 hx
  obtain ⟨k, rfl, hk⟩ := Fits.int Try.underlying25 hy
  obtain ⟨n, rfl, hn⟩ := Fits.int Try.underlying25 hz
  exact of_law op k n (wf_u64 hk) (wf_u64 hn) [] WFL.nil

end Go.Proofs.Ytpneikbihcoaaaa.Vm

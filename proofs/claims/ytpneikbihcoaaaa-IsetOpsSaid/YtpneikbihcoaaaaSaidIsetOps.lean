/- The law of what is in both, in one of both, and not in a set, for all arguments that fit. -/
import Derived.Test.YtpneikbihcoaaaaWalkIsetOps
import Derived.Test.YtpneikbihcoaaaaIsetF
open Go Go.Proofs Go.Proofs.Ytpneikbihcoaaaa
namespace Go.Proofs.Ytpneikbihcoaaaa.Vm

theorem said_isetOps {x y z : AV} (hx : Fits Try.prog 12 53 x) (hy : Fits Try.prog 12 53 y) (hz : Fits Try.prog 12 25 z) :
    ACall Try.prog 10 [x, y, z] [] (Is (.bool true) []) := by
  obtain ⟨a, rfl, ha⟩ := fits_spans hx
  obtain ⟨b, rfl, hb⟩ := fits_spans hy
  obtain ⟨n, rfl, hn⟩ := Fits.int Try.underlying25 hz
  exact ops_law a b ha hb n (wf_u64 hn) [] WFL.nil

end Go.Proofs.Ytpneikbihcoaaaa.Vm

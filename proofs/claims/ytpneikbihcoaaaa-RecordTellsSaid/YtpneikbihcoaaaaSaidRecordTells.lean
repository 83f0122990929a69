/- The law of a record's words and fields, for all arguments that fit. -/
import Derived.Test.YtpneikbihcoaaaaRec14
import Derived.Test.YtpneikbihcoaaaaRecF
open Go Go.Proofs Go.Proofs.Ytpneikbihcoaaaa
namespace Go.Proofs.Ytpneikbihcoaaaa.Vm

theorem said_recordTells {x y z u : AV} (hx : Fits Try.prog 12 24 x) (hy : Fits Try.prog 12 3 y) (hz : Fits Try.prog 12 25 z) (hu : Fits Try.prog 12 22 u) : ACall Try.prog 3 [x, y, z, u] [] (Is (.bool true) []) := by
  obtain ⟨r, hr, rfl⟩ := fits_rec hx
  obtain ⟨f, rfl, _⟩ := Fits.int Try.underlying3 hy
  obtain ⟨v, rfl, hv⟩ := Fits.int Try.underlying25 hz
  obtain ⟨n, rfl, hn⟩ := Fits.int Try.underlying22 hu
  exact tells_law r hr f v n (wf_u64 hv) (wf_u32 hn) [] WFL.nil

end Go.Proofs.Ytpneikbihcoaaaa.Vm

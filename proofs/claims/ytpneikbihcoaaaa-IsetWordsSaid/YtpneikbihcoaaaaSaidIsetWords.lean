/- The law of higher and lower words, for all arguments that fit. -/
import Derived.Test.YtpneikbihcoaaaaWalkIsetWords
import Derived.Test.YtpneikbihcoaaaaIsetF
open Go Go.Proofs Go.Proofs.Ytpneikbihcoaaaa
namespace Go.Proofs.Ytpneikbihcoaaaa.Vm

theorem said_isetWords {x y z : AV} (hx : Fits Try.prog 12 53 x) (hy : Fits Try.prog 12 22 y) (hz : Fits Try.prog 12 25 z) :
    ACall Try.prog 14 [x, y, z] [] (Is (.bool true) []) := by
  obtain ⟨l, rfl, hl⟩ := fits_spans hx
  obtain ⟨h, rfl, hh⟩ := Fits.int Try.underlying22 hy
  obtain ⟨n, rfl, hn⟩ := Fits.int Try.underlying25 hz
  exact words_law l hl h n (wf_u32 hh) (wf_u64 hn) [] WFL.nil

end Go.Proofs.Ytpneikbihcoaaaa.Vm

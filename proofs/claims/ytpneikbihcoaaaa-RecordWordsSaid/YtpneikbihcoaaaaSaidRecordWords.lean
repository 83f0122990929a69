/- The law that a record is all its fields, for all arguments that fit. -/
import Derived.Test.YtpneikbihcoaaaaRec13
import Derived.Test.YtpneikbihcoaaaaRecF
open Go Go.Proofs Go.Proofs.Ytpneikbihcoaaaa
namespace Go.Proofs.Ytpneikbihcoaaaa.Vm

theorem said_recordWords {x y : AV} (hx : Fits Try.prog 12 24 x) (hy : Fits Try.prog 12 24 y) : ACall Try.prog 6 [x, y] [] (Is (.bool true) []) := by
  obtain ⟨a, ha, rfl⟩ := fits_rec hx
  obtain ⟨b, hb, rfl⟩ := fits_rec hy
  exact words_law a b ha hb [] WFL.nil

end Go.Proofs.Ytpneikbihcoaaaa.Vm

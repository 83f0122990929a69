/- The answers that the document fixes are so. -/
import Derived.Test.YtpneikbihcoaaaaRec6
open Go Go.Proofs Go.Proofs.Ytpneikbihcoaaaa
namespace Go.Proofs.Ytpneikbihcoaaaa.Vm
set_option linter.unusedVariables false
set_option linter.unusedSimpArgs false

def r0 : Nat → Int := fun i => if i = 0 then 5 else if i = 1 then 6 else if i = 4 then 1 else if i = 5 then 2 else 0
theorem r0_ok : OkR r0 := fun i => by unfold r0; repeat' split <;> omega

theorem find5 : findOf ⟨#[97, 114, 103, 53]⟩ = 8 := by simp [findOf, indexOf, nms]
theorem find5b : (0 ≤ indexOf nms ⟨#[97, 114, 103, 53]⟩ 0) = True := by simp [indexOf, nms]
theorem read_r0 (j : Nat) (hj : j < 16) : readR (bytesOf (rb r0 16)) j = r0 j := by simp only [readR, size_rb, if_true]; exact wd_rb r0 r0_ok j hj
theorem size_r0 : (bytesOf (rb r0 16)).size = 64 := size_rb r0

set_option maxRecDepth 4000 in
theorem awake_run (L : List AObj) (hw : WFL L) : ACall Try.prog 18 [] L (Is (.bool true) L) := by
  refine ACall.walk (by kernel_rfl) Try.func18 rfl rfl rfl rfl [] (by kernel_rfl) kp18 100 fun c hP hn hL => ?_
  simp [Try.f18]
  refine AOps.callIs hP hn rfl [] 100 (load_run r0 20 (by decide) _ (by simp [hw, hw.append_closed])) (by simp [RA]) (by simp <;> rfl) (by kernel_rfl) ?_
  simp [load, loadOk, r0, RA]
  refine AOps.callIs hP hn rfl [] 100 (load_run r0 21 (by decide) _ (by simp [hw, hw.append_closed])) (by simp [RA]) (by simp <;> rfl) (by kernel_rfl) ?_
  simp [load, loadOk, r0, RA]
  refine AOps.callIs hP hn rfl [] 100 (load_run r0 64 (by decide) _ (by simp [hw, hw.append_closed])) (by simp [RA]) (by simp <;> rfl) (by kernel_rfl) ?_
  simp [load, loadOk, r0, RA]
  refine AOps.callIs hP hn rfl [] 100 (field_run r0 r0_ok 3 _ (by simp [hw, hw.append_closed])) (by simp [RA]) (by simp <;> rfl) (by kernel_rfl) ?_
  simp [field, isField, r0, RA]
  refine AOps.callIs hP hn rfl [] 100 (field_run r0 r0_ok 9 _ (by simp [hw, hw.append_closed])) (by simp [RA]) (by simp <;> rfl) (by kernel_rfl) ?_
  simp [field, isField, r0, RA]
  refine AOps.callIs hP hn rfl [] 100 (with_run r0 3 7 (by decide) _ (by simp [hw, hw.append_closed])) (by simp [RA]) (by simp <;> rfl) (by kernel_rfl) ?_
  simp [RA]
  refine AOps.callIs hP hn rfl [] 100 (with_run r0 0 4294967296 (by decide) _ (by simp [hw, hw.append_closed])) (by simp [RA]) (by simp <;> rfl) (by kernel_rfl) ?_
  simp [RA]
  refine AOps.callIs hP hn rfl [] 100 (of_run 5 _ (by simp [hw, hw.append_closed])) (by simp [RA]) (by simp <;> rfl) (by kernel_rfl) ?_
  simp [ofField, ofHigh, RA]
  refine AOps.callIs hP hn rfl [] 100 (find_run ⟨#[97, 114, 103, 53]⟩ _ (by simp [hw, hw.append_closed])) (by simp [RA]) (by simp <;> rfl) (by kernel_rfl) ?_
  simp [find5, find5b]
  refine AOps.callIs hP hn rfl [] 100 (print_run r0 r0_ok _ (by simp [hw, hw.append_closed])) (by simp [RA]) (by simp <;> rfl) (by kernel_rfl) ?_
  simp [RA]
  refine AOps.callIs hP hn rfl [] 100 (read_run (bytesOf (rb r0 16)) _ (by simp [hw, hw.append_closed])) (by simp [RA]) (by simp <;> rfl) (by kernel_rfl) ?_
  simp [read_r0, readE_rb, RA, size_r0, eqAVs_RL, RL, withR, withOk, place, r0, width, nameOf, nms]
  refine AOps.callIs hP hn rfl [] 100 (width_run 2 _ (by simp [hw, hw.append_closed])) (by simp) (by simp <;> rfl) (by kernel_rfl) ?_
  simp [width]
  refine AOps.callIs hP hn rfl [] 100 (place_run 8 _ (by simp [hw, hw.append_closed])) (by simp) (by simp <;> rfl) (by kernel_rfl) ?_
  simp [place]
  refine AOps.callIs hP hn rfl [] 100 (name_run 1 _ (by simp [hw, hw.append_closed])) (by simp) (by simp <;> rfl) (by kernel_rfl) ?_
  simp [nameOf, nms]
  exact AGo.ret_isM hP Try.func18 hL hw (by simp [Try.f18] <;> rfl) rfl rfl rfl

end Go.Proofs.Ytpneikbihcoaaaa.Vm

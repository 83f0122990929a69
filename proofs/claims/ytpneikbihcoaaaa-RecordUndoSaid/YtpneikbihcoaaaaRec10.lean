/- The law of setting fields, walked. -/
import Derived.Test.YtpneikbihcoaaaaRec9
import Derived.Test.YtpneikbihcoaaaaVm26
open Go Go.Proofs Go.Proofs.Ytpneikbihcoaaaa
namespace Go.Proofs.Ytpneikbihcoaaaa.Vm
set_option linter.unusedVariables false
set_option linter.unusedSimpArgs false

attribute [local simp] isLd isSt touchR touch fpl

set_option maxRecDepth 4000 in
set_option maxHeartbeats 2000000 in
theorem undo_law (r : Nat → Int) (hr : OkR r) (f g v w : Int) (hv : 0 ≤ v ∧ v < 18446744073709551616) (hw0 : 0 ≤ w ∧ w < 18446744073709551616) (L : List AObj) (hw : WFL L) :
    ACall Try.prog 8 [.agg [RA r, .int .i64 f, .int .i64 g, .int .u64 v, .int .u64 w]] L (Is (.bool true) L) := by
  refine ACall.walk (by kernel_rfl) Try.func8 rfl rfl rfl rfl [1] (by kernel_rfl) kp8 100 fun c hP hn hL => ?_
  simp [Try.f8, RA]
  refine AGo.regionF hP hn L.length [(0, 0), (1, 0), (2, 0), (3, 0), (4, 0), (5, 0), (6, 0), (7, 0), (8, 0), (9, 0), (11, 1)] (by kernel_rfl) (by kernel_rfl) (by simp [runF]; rfl) ?_
  refine AGo.keep [2, 3, 4, 5, 6, 7] ?_
  simp
  refine AGo.go hP hn rfl [] kp8 100 (by kernel_rfl) ?_
  simp
  refine AOps.callIs hP hn rfl [] 100 (field_run r hr f _ (by simp [hw, hw.append_closed])) (by simp [RA]) (by simp <;> rfl) (by kernel_rfl) ?_
  simp [RA]
  refine AOps.callIs hP hn rfl [] 100 (with_run r f v hv _ (by simp [hw, hw.append_closed])) (by simp [RA]) (by simp <;> rfl) (by kernel_rfl) ?_
  simp [RA]
  refine AOps.callIs hP hn rfl [] 100 (awake_run _ (by simp [hw, hw.append_closed])) (by simp [RA]) (by simp <;> rfl) (by kernel_rfl) ?_
  by_cases h1 : isField f = true
  · by_cases h2 : withOk f v = true
    · have hf0 := field_ok hr (f := f)
      have hb := with_back r hr f v h2
      simp [h1, h2, RA]
      refine AOps.callIs hP hn rfl [] 100 (with_run (withR r f v) f (field r f) ⟨hf0.1, hf0.2.1⟩ _ (by simp [hw, hw.append_closed])) (by simp [RA]) (by simp <;> rfl) (by kernel_rfl) ?_
      simp [RA]
      refine AOps.callIs hP hn rfl [] 100 (with_run (withR r f v) g w hw0 _ (by simp [hw, hw.append_closed])) (by simp [RA]) (by simp <;> rfl) (by kernel_rfl) ?_
      simp [RA]
      refine AOps.callIs hP hn rfl [] 100 (with_run r g w hw0 _ (by simp [hw, hw.append_closed])) (by simp [RA]) (by simp <;> rfl) (by kernel_rfl) ?_
      simp [RA]
      refine AOps.callIs hP hn rfl [] 100 (with_run (withR r g w) f v hv _ (by simp [hw, hw.append_closed])) (by simp [RA]) (by simp <;> rfl) (by kernel_rfl) ?_
      by_cases h3 : withOk g w = true
      · by_cases h4 : f = g
        · subst h4
          have hc := with_twice r f v w h2 h3
          simp (config := { maxSteps := 1000000 }) [RA, eqAVs_RL, hb, h3, hc, h2]
          exact AGo.ret_isM hP Try.func8 hL hw (by simp [Try.f8] <;> rfl) rfl rfl rfl
        · have hc := with_comm r f g v w h4 h2 h3
          have h5 : (f == g) = false := by simpa using h4
          simp (config := { maxSteps := 1000000 }) [RA, eqAVs_RL, hb, h3, hc, h2, h4, h5]
          exact AGo.ret_isM hP Try.func8 hL hw (by simp [Try.f8] <;> rfl) rfl rfl rfl
      · simp (config := { maxSteps := 1000000 }) [RA, eqAVs_RL, hb, h3]
        exact AGo.ret_isM hP Try.func8 hL hw (by simp [Try.f8] <;> rfl) rfl rfl rfl
    · simp [h1, h2, RA]
      refine AOps.callIs hP hn rfl [] 100 (awake_run _ (by simp [hw, hw.append_closed])) (by simp [RA]) (by simp <;> rfl) (by kernel_rfl) ?_
      simp
      exact AGo.ret_isM hP Try.func8 hL hw (by simp [Try.f8] <;> rfl) rfl rfl rfl
  · simp [h1, RA]
    refine AOps.callIs hP hn rfl [] 100 (awake_run _ (by simp [hw, hw.append_closed])) (by simp [RA]) (by simp <;> rfl) (by kernel_rfl) ?_
    simp
    exact AGo.ret_isM hP Try.func8 hL hw (by simp [Try.f8] <;> rfl) rfl rfl rfl

end Go.Proofs.Ytpneikbihcoaaaa.Vm

/- A record is all its fields: the law, walked. -/
import Derived.Test.YtpneikbihcoaaaaRec12
open Go Go.Proofs Go.Proofs.Ytpneikbihcoaaaa
namespace Go.Proofs.Ytpneikbihcoaaaa.Vm
set_option linter.unusedVariables false
set_option linter.unusedSimpArgs false

set_option maxRecDepth 4000 in
theorem words_law (a b : Nat → Int) (ha : OkR a) (hb : OkR b) (L : List AObj) (hw : WFL L) : ACall Try.prog 6 [RA a, RA b] L (Is (.bool true) L) := by
  refine ACall.walk (by kernel_rfl) Try.func6 rfl rfl rfl rfl [] (by kernel_rfl) kp6 100 fun c hP hn hL => ?_
  simp [Try.f6, RA]
  refine AGo.loopN [2, 3, 5, 6, 15] (fun i => [.addr L.length 0 0 [] 0, .addr (L.length + 1) 0 0 [] 0, .bool (sm a b i), .addr (L.length + 2) 0 0 [] 0, .int .i64 i])
    (fun i => L ++ [⟨0, 16, false, false, [.agg (RL a)]⟩, ⟨0, 16, false, false, [.agg (RL b)]⟩, ⟨0, 16, false, false, [.agg (RL (CC a i))]⟩]) 9 (by simp [sm]) (by simp [CC, RL]) (fun i hi ih => ?_) ?_
  · refine AGo.go hP hn rfl [] kp6 100 (by kernel_rfl) ?_
    have hi' : (i : Int) < 9 := by omega
    have w1 : IntKind.i64.wrap ((i : Int) + 1) = i + 1 := wrap_id (by omega) (by omega)
    have hfi : isField (i : Int) = true := by simp [isField]; omega
    have hwk := field_with ha hi
    have hfa := field_ok ha (f := (i : Int))
    simp [-wrap_i64, hi']
    refine AOps.callIs hP hn rfl [] 100 (field_run a ha i _ (by simp [hw, hw.append_closed])) (by simp [RA]) (by simp <;> rfl) (by kernel_rfl) ?_
    simp [-wrap_i64]
    refine AOps.callIs hP hn rfl [] 100 (field_run b hb i _ (by simp [hw, hw.append_closed])) (by simp [RA]) (by simp <;> rfl) (by kernel_rfl) ?_
    by_cases hs : sm a b i = true
    · simp [-wrap_i64, hs]
      refine AOps.callIs hP hn rfl [] 100 (with_run (CC a i) i (field a i) ⟨hfa.1, hfa.2.1⟩ _ (by simp [hw, hw.append_closed])) (by simp [RA]) (by simp <;> rfl) (by kernel_rfl) ?_
      simp [-wrap_i64, RA, hwk, w1]
      refine AGo.keep [2, 3, 5, 6, 15] ?_
      simp [-wrap_i64]
      refine AGo.trimTo (M := [_, _, _]) (N := [_]) hL hw (by simp [AV.idsL, AV.ids]) (by simp [AV.ids]) ?_
      exact AGo.again ih (by simp [sm, hs]) (by simp [CC])
    · simp [-wrap_i64, hs]
      refine AOps.callIs hP hn rfl [] 100 (with_run (CC a i) i (field a i) ⟨hfa.1, hfa.2.1⟩ _ (by simp [hw, hw.append_closed])) (by simp [RA]) (by simp <;> rfl) (by kernel_rfl) ?_
      simp [-wrap_i64, RA, hwk, w1]
      refine AGo.keep [2, 3, 5, 6, 15] ?_
      simp [-wrap_i64]
      refine AGo.trimTo (M := [_, _, _]) (N := [_]) hL hw (by simp [AV.idsL, AV.ids]) (by simp [AV.ids]) ?_
      exact AGo.again ih (by simp [sm, hs]) (by simp [CC])
  · refine AGo.go hP hn rfl [] kp6 100 (by kernel_rfl) ?_
    have e1 := sm_all ha hb
    have e2 := CC_all ha
    have e3 := print_eq ha hb
    simp
    refine AOpsD.callIs hP hn rfl [] 100 (awake_run _ (by simp [hw, hw.append_closed])) (by simp [RA]) (by simp <;> rfl) (by kernel_rfl) ?_
    simp [eqAVs_RL, e1, e2]
    refine AOpsD.callIs hP hn rfl [] 100 (print_run a ha _ (by simp [hw, hw.append_closed])) (by simp [RA]) (by simp <;> rfl) (by kernel_rfl) ?_
    simp
    refine AOpsD.callIs hP hn rfl [] 100 (print_run b hb _ (by simp [hw, hw.append_closed])) (by simp [RA]) (by simp <;> rfl) (by kernel_rfl) ?_
    simp [e3]
    exact AGo.ret_isM hP Try.func6 hL hw (by simp [Try.f6] <;> rfl) rfl rfl rfl

end Go.Proofs.Ytpneikbihcoaaaa.Vm

/- Split at one set, and what is so of the sets that chapter 15 names. -/
import Derived.Test.YtpneikbihcoaaabIset3
import Derived.Test.YtpneikbihcoaaabIset7
import Derived.Test.YtpneikbihcoaaabVm30
import Derived.Test.YtpneikbihcoaaabIset8
import Derived.Test.YtpneikbihcoaaabIset11
open Go Go.Proofs Go.Proofs.Ytpneikbihcoaaab
namespace Go.Proofs.Ytpneikbihcoaaab.Vm
set_option linter.unusedVariables false
set_option linter.unusedSimpArgs false

/-- A block. -/
def blkA (f t : Int) (l : List Sp) : AV := .agg [.int .u32 f, .int .u32 t, .slice (spL l)]

set_option maxRecDepth 4000 in
theorem words_one (L : List AObj) (hw : WFL L) : ACall Try.prog 28 [.agg [.int .u64 4294967301, .int .u64 12884901895]] L
    (Is (.slice [blkA 1 1 [(5, 4294967295)], blkA 2 2 [(0, 4294967295)], blkA 3 3 [(0, 7)]]) L) := by
  refine ACall.walk (by kernel_rfl) Try.func28 rfl rfl rfl rfl [] (by kernel_rfl) kp28 200 fun c hP hn hL => ?_
  have e1 : Int.fdiv 4294967301 (2 ^ min 32 IntKind.u64.bits) = 1 := by decide
  have e2 : Int.fdiv 12884901895 (2 ^ min 32 IntKind.u64.bits) = 3 := by decide
  have e3 : ((4294967301 % 2 ^ IntKind.u64.bits &&& 4294967295 % 2 ^ IntKind.u64.bits : Nat) : Int) % 18446744073709551616 = 5 := by decide
  have e4 : ((12884901895 % 2 ^ IntKind.u64.bits &&& 4294967295 % 2 ^ IntKind.u64.bits : Nat) : Int) % 18446744073709551616 = 7 := by decide
  simp [Try.f28, e1, e2, e3, e4]
  refine AGo.melt (M := [_, _, _, _, _, _, _, _]) [2] 2 hw rfl rfl rfl ?_
  simp
  refine AGo.melt (M := [_, _, _, _, _, _, _, _]) [2] 4 hw rfl rfl rfl ?_
  simp
  refine AGo.melt (M := [_, _, _, _, _, _, _, _]) [2] 6 hw rfl rfl rfl ?_
  simp
  refine AGo.melt (M := [_, _, _, _, _, _, _, _]) [2] 1 hw rfl rfl rfl ?_
  simp
  exact AGo.ret_isM hP Try.func28 hL hw (by simp [Try.f28] <;> rfl) rfl rfl (by simp [blkA, spL, spA])

def oneS : List Sp := [(4294967301, 12884901895)]
theorem norm_one : normW 64 oneS = oneS := by decide

set_option maxRecDepth 8000 in
set_option maxHeartbeats 2000000 in
theorem split_one (L : List AObj) (hw : WFL L) : ACall Try.prog 7 [.slice [.agg [.int .u64 4294967301, .int .u64 12884901895]]] L
    (Is (.slice [blkA 1 1 [(5, 4294967295)], blkA 2 2 [(0, 4294967295)], blkA 3 3 [(0, 7)]]) L) := by
  refine ACall.walk (by kernel_rfl) Try.func7 rfl rfl rfl rfl [] (by kernel_rfl) kp7 200 fun c hP hn hL => ?_
  simp [Try.f7]
  refine AOps.callIs hP hn rfl [] 100 (norm_is oneS (by decide) (by intro s hs; simp [oneS] at hs; subst hs; decide) 64 _ (by simp [hw, hw.append_closed])) (by simp) (by simp <;> rfl) (by kernel_rfl) ?_
  rw [norm_one]
  simp [oneS, spL, spA]
  refine AGo.loop (AGo.go hP hn rfl [] kp7 200 (by kernel_rfl) ?_)
  simp
  refine AOps.callIs hP hn rfl [] 200 (words_one _ (by simp [hw, hw.append_closed])) (by simp) (by simp <;> rfl) (by kernel_rfl) ?_
  simp [blkA, spL, spA]
  refine AGo.loop (AGo.go hP hn rfl [] kp7 200 (by kernel_rfl) ?_)
  simp
  refine AGo.inLoop (AGo.go hP hn rfl [] kp7 200 (by kernel_rfl) ?_)
  simp
  refine AGo.inLoop (AGo.go hP hn rfl [] kp7 200 (by kernel_rfl) ?_)
  simp
  refine AGo.inLoop (AGo.go hP hn rfl [] kp7 200 (by kernel_rfl) ?_)
  simp
  refine AGo.inLoop (AGo.go hP hn rfl [] kp7 200 (by kernel_rfl) ?_)
  simp
  refine AGo.loop (AGo.go hP hn rfl [] kp7 200 (by kernel_rfl) ?_)
  simp
  refine AGo.inLoop (AGo.go hP hn rfl [] kp7 200 (by kernel_rfl) ?_)
  simp
  refine AOpsD.callIs hP hn rfl [] 200 (equal_run [(0, 4294967295)] [(5, 4294967295)] (by simp) _ (by simp [hw, hw.append_closed, AV.closed, AV.closedL])) (by simp) (by simp [spL, spA] <;> rfl) (by kernel_rfl) ?_
  rw [show sameS [((0, 4294967295) : Sp)] [(5, 4294967295)] = false by decide]
  simp
  refine AGo.inLoop (AGo.go hP hn rfl [] kp7 200 (by kernel_rfl) ?_)
  simp
  refine AOpsD.callIs hP hn rfl [] 200 (equal_run [(0, 7)] [(0, 4294967295)] (by simp) _ (by simp [hw, hw.append_closed, AV.closed, AV.closedL])) (by simp) (by simp [spL, spA] <;> rfl) (by kernel_rfl) ?_
  rw [show sameS [((0, 7) : Sp)] [(0, 4294967295)] = false by decide]
  simp
  refine AGo.inLoop (AGo.go hP hn rfl [] kp7 200 (by kernel_rfl) ?_)
  simp
  refine AGo.freeze (L.length + 9) (by simp; rfl) ?_
  refine AGo.keep [2] ?_
  simp [frzL]

  exact AGo.ret_isM hP Try.func7 hL hw (by simp [Try.f7] <;> rfl) rfl rfl (by simp [blkA, spL, spA])

set_option maxRecDepth 8000 in
set_option maxHeartbeats 4000000 in
theorem awake15_run (L : List AObj) (hw : WFL L) : ACall Try.prog 5 [] L (Is (.bool true) L) := by
  refine ACall.walk (by kernel_rfl) Try.func5 rfl rfl rfl rfl [] (by kernel_rfl) kp5 200 fun c hP hn hL => ?_
  simp [Try.f5]
  refine AOps.freeze L.length (by simp; rfl) ?_
  simp [frzL]
  refine AOps.callIs hP hn rfl [] 200 (norm_is [(7, 7), (1, 3), (4, 4), (9, 8)] (by decide) (by intro s hs; simp at hs; rcases hs with rfl | rfl | rfl | rfl <;> decide) 32 _ (by simp [hw, hw.append_closed, AV.closed, AV.closedL])) (by simp) (by simp [spL, spA] <;> rfl) (by kernel_rfl) ?_
  rw [show normW 32 [(7, 7), (1, 3), (4, 4), (9, 8)] = [(1, 4), (7, 7)] from by decide]
  simp [spL, spA]
  refine AOps.freeze (L.length + 1) (by simp; rfl) ?_
  simp [frzL]
  refine AOps.callIs hP hn rfl [] 200 (split_one _ (by simp [hw, hw.append_closed, AV.closed, AV.closedL])) (by simp) (by simp [spL, spA] <;> rfl) (by kernel_rfl) ?_
  simp [blkA, spL, spA]
  refine AOps.callIs hP hn rfl [] 200 (least_run [(1, 4), (7, 7)] (by decide) (by intro s hs; simp at hs; rcases hs with rfl | rfl <;> decide) _ (by simp [hw, hw.append_closed, AV.closed, AV.closedL])) (by simp) (by simp [spL, spA] <;> rfl) (by kernel_rfl) ?_
  rw [show leastS [(1, 4), (7, 7)] = (1, true) from by decide]
  simp
  refine AOps.callIs hP hn rfl [] 200 ((least_run [] (by decide) (by intro s hs; cases hs) _ (by simp [hw, hw.append_closed, AV.closed, AV.closedL])).nil1) (by simp) (by simp [spL, spA] <;> rfl) (by kernel_rfl) ?_
  rw [show leastS [] = (0, false) from by decide]
  simp
  refine AOps.freeze (L.length + 2) (by simp; rfl) ?_
  simp [frzL]
  refine AOps.callIs hP hn rfl [] 200 (same_run [(1, 4), (7, 7)] [(1, 4), (7, 7)] (by decide) _ (by simp [hw, hw.append_closed, AV.closed, AV.closedL])) (by simp) (by simp [spL, spA] <;> rfl) (by kernel_rfl) ?_
  rw [show sameS [(1, 4), (7, 7)] [(1, 4), (7, 7)] = true from by decide]
  simp
  refine AOps.callIs hP hn rfl [] 200 (right_run [(1, 4), (7, 7)] (by decide) (by intro s hs; simp at hs; rcases hs with rfl | rfl <;> decide) 32 _ (by simp [hw, hw.append_closed, AV.closed, AV.closedL])) (by simp) (by simp [spL, spA] <;> rfl) (by kernel_rfl) ?_
  rw [show (okW 32 && sameS (normW 32 [(1, 4), (7, 7)]) [(1, 4), (7, 7)]) = true from by decide]
  simp
  refine AOps.callIs hP hn rfl [] 200 (right_run [(1, 4), (7, 7)] (by decide) (by intro s hs; simp at hs; rcases hs with rfl | rfl <;> decide) 16 _ (by simp [hw, hw.append_closed, AV.closed, AV.closedL])) (by simp) (by simp [spL, spA] <;> rfl) (by kernel_rfl) ?_
  rw [show (okW 16 && sameS (normW 16 [(1, 4), (7, 7)]) [(1, 4), (7, 7)]) = false from by decide]
  simp
  refine AOps.callIs hP hn rfl [] 200 (has_run [(1, 4), (7, 7)] (by decide) 4 _ (by simp [hw, hw.append_closed, AV.closed, AV.closedL])) (by simp) (by simp [spL, spA] <;> rfl) (by kernel_rfl) ?_
  rw [show hasS [(1, 4), (7, 7)] 4 = true from by decide]
  simp
  refine AOps.callIs hP hn rfl [] 200 (has_run [(1, 4), (7, 7)] (by decide) 5 _ (by simp [hw, hw.append_closed, AV.closed, AV.closedL])) (by simp) (by simp [spL, spA] <;> rfl) (by kernel_rfl) ?_
  rw [show hasS [(1, 4), (7, 7)] 5 = false from by decide]
  simp
  refine AOps.callIs hP hn rfl [] 200 ((and_run [(1, 4), (7, 7)] [(1, 4), (7, 7)] (by decide) (by decide) (by intro s hs; simp at hs; rcases hs with rfl | rfl <;> decide) (by intro s hs; simp at hs; rcases hs with rfl | rfl <;> decide) _ (by simp [hw, hw.append_closed, AV.closed, AV.closedL])).rowS (by simp [hw, hw.append_closed, AV.closed, AV.closedL])) (by simp) (by simp [spL, spA] <;> rfl) (by kernel_rfl) ?_
  rw [show andS [(1, 4), (7, 7)] [(1, 4), (7, 7)] = [(1, 4), (7, 7)] from by decide]
  simp [spL, spA]
  refine AOps.freeze (L.length + 3) (by simp; rfl) ?_
  simp [frzL]
  refine AOps.callIs hP hn rfl [] 200 (or_run [(1, 4), (7, 7)] [(5, 6)] (by decide) (by decide) (by intro s hs; simp at hs; rcases hs with rfl | rfl <;> decide) (by intro s hs; simp at hs; subst hs; decide) _ (by simp [hw, hw.append_closed, AV.closed, AV.closedL])) (by simp) (by simp [spL, spA] <;> rfl) (by kernel_rfl) ?_
  rw [show orS [(1, 4), (7, 7)] [(5, 6)] = [(1, 7)] from by decide]
  simp [spL, spA]
  refine AOps.callIs hP hn rfl [] 200 ((not_run [(1, 4), (7, 7)] (by decide) (by intro s hs; simp at hs; rcases hs with rfl | rfl <;> decide) 32 _ (by simp [hw, hw.append_closed, AV.closed, AV.closedL])).rowS (by simp [hw, hw.append_closed, AV.closed, AV.closedL])) (by simp) (by simp [spL, spA] <;> rfl) (by kernel_rfl) ?_
  rw [show notW 32 [(1, 4), (7, 7)] = [(0, 0), (5, 6), (8, 4294967295)] from by decide]
  simp [spL, spA]
  refine AOps.freeze (L.length + 4) (by simp; rfl) ?_
  simp [frzL]
  refine AOps.callIs hP hn rfl [] 200 (same_run [(0, 0), (5, 6), (8, 4294967295)] [(0, 0), (5, 6), (8, 4294967295)] (by decide) _ (by simp [hw, hw.append_closed, AV.closed, AV.closedL])) (by simp) (by simp [spL, spA] <;> rfl) (by kernel_rfl) ?_
  rw [show sameS [(0, 0), (5, 6), (8, 4294967295)] [(0, 0), (5, 6), (8, 4294967295)] = true from by decide]
  simp
  refine AOps.callIs hP hn rfl [] 200 (of_run 32 4294967295 (by decide) 32 _ (by simp [hw, hw.append_closed, AV.closed, AV.closedL])) (by simp) (by simp [spL, spA] <;> rfl) (by kernel_rfl) ?_
  rw [show normW 32 (ofL 32 4294967295) = [] from by decide]
  simp [spL, spA]
  refine AOps.callIs hP hn rfl [] 200 (count_run [(1, 4), (7, 7)] (by decide) (by intro s hs; simp at hs; rcases hs with rfl | rfl <;> decide) _ (by simp [hw, hw.append_closed, AV.closed, AV.closedL])) (by simp) (by simp [spL, spA] <;> rfl) (by kernel_rfl) ?_
  rw [show countN 0 (normW 64 [(1, 4), (7, 7)]) = 5 from by decide]
  simp
  refine AOps.callIs hP hn rfl [] 200 ((high_run [(1, 4), (7, 7)] (by decide) (by intro s hs; simp at hs; rcases hs with rfl | rfl <;> decide) _ (by simp [hw, hw.append_closed, AV.closed, AV.closedL])).rowS (by simp [hw, hw.append_closed, AV.closed, AV.closedL])) (by simp) (by simp [spL, spA] <;> rfl) (by kernel_rfl) ?_
  rw [show (normW 32 [(1, 4), (7, 7)]).map highS = [(4294967296, 21474836479), (30064771072, 34359738367)] from by decide]
  simp [spL, spA]
  refine AOps.freeze (L.length + 5) (by simp; rfl) ?_
  simp [frzL]
  refine AOps.callIs hP hn rfl [] 200 (same_run [(4294967296, 21474836479), (30064771072, 34359738367)] [(4294967296, 21474836479), (30064771072, 34359738367)] (by decide) _ (by simp [hw, hw.append_closed, AV.closed, AV.closedL])) (by simp) (by simp [spL, spA] <;> rfl) (by kernel_rfl) ?_
  rw [show sameS [(4294967296, 21474836479), (30064771072, 34359738367)] [(4294967296, 21474836479), (30064771072, 34359738367)] = true from by decide]
  simp
  refine AOps.callIs hP hn rfl [] 200 ((under_run 2 (by decide) [(1, 4), (7, 7)] (by decide) (by intro s hs; simp at hs; rcases hs with rfl | rfl <;> decide) _ (by simp [hw, hw.append_closed, AV.closed, AV.closedL])).rowS (by simp [hw, hw.append_closed, AV.closed, AV.closedL])) (by simp) (by simp [spL, spA] <;> rfl) (by kernel_rfl) ?_
  rw [show (normW 32 [(1, 4), (7, 7)]).map (underS 2) = [(8589934593, 8589934596), (8589934599, 8589934599)] from by decide]
  simp [spL, spA]
  refine AOps.freeze (L.length + 6) (by simp; rfl) ?_
  simp [frzL]
  refine AOps.callIs hP hn rfl [] 200 (same_run [(8589934593, 8589934596), (8589934599, 8589934599)] [(8589934593, 8589934596), (8589934599, 8589934599)] (by decide) _ (by simp [hw, hw.append_closed, AV.closed, AV.closedL])) (by simp) (by simp [spL, spA] <;> rfl) (by kernel_rfl) ?_
  rw [show sameS [(8589934593, 8589934596), (8589934599, 8589934599)] [(8589934593, 8589934596), (8589934599, 8589934599)] = true from by decide]
  simp
  exact AGo.ret_isM hP Try.func5 hL hw (by simp [Try.f5] <;> rfl) rfl rfl rfl

end Go.Proofs.Ytpneikbihcoaaab.Vm

/- The names, places and widths of the fields: the law, walked. -/
import Derived.Test.YtpneikbihcoaaaaRec15
open Go Go.Proofs Go.Proofs.Ytpneikbihcoaaaa
namespace Go.Proofs.Ytpneikbihcoaaaa.Vm
set_option linter.unusedVariables false
set_option linter.unusedSimpArgs false

set_option maxRecDepth 4000 in
set_option maxHeartbeats 1000000 in
theorem fields_law (f n : Int) (s : ByteArray) (L : List AObj) (hw : WFL L) : ACall Try.prog 4 [.int .i64 f, .int .i64 n, .str s] L (Is (.bool true) L) := by
  refine ACall.walk (by kernel_rfl) Try.func4 rfl rfl rfl rfl [] (by kernel_rfl) kp4 100 fun c hP hn hL => ?_
  simp [Try.f4]
  refine AOps.callIs hP hn rfl [] 100 (awake_run _ (by simp [hw, hw.append_closed])) (by simp [RA]) (by simp <;> rfl) (by kernel_rfl) ?_
  by_cases h1 : 100 < s.size
  · have h1' : (100 : Int) < (s.size : Int) := by omega
    simp [h1, h1']
    refine AOps.callIs hP hn rfl [] 100 (awake_run _ (by simp [hw, hw.append_closed])) (by simp [RA]) (by simp <;> rfl) (by kernel_rfl) ?_
    simp
    exact AGo.ret_is hP Try.func4 hL hw (by simp [Try.f4] <;> rfl) rfl rfl rfl
  have h1' : ¬ (100 : Int) < (s.size : Int) := by omega
  simp [h1, h1']
  refine AOps.callIs hP hn rfl [] 100 (find_run s _ (by simp [hw, hw.append_closed])) (by simp [RA]) (by simp <;> rfl) (by kernel_rfl) ?_
  simp
  refine AOps.callIs hP hn rfl [] 100 (of_run n _ (by simp [hw, hw.append_closed])) (by simp [RA]) (by simp <;> rfl) (by kernel_rfl) ?_
  simp
  refine AOps.callIs hP hn rfl [] 100 (place_run f _ (by simp [hw, hw.append_closed])) (by simp [RA]) (by simp <;> rfl) (by kernel_rfl) ?_
  simp
  refine AOps.callIs hP hn rfl [] 100 (refPlace_run f _ (by simp [hw, hw.append_closed])) (by simp [RA]) (by simp <;> rfl) (by kernel_rfl) ?_
  simp
  refine AOps.callIs hP hn rfl [] 100 (width_run f _ (by simp [hw, hw.append_closed])) (by simp [RA]) (by simp <;> rfl) (by kernel_rfl) ?_
  simp
  refine AOps.callIs hP hn rfl [] 100 (refWidth_run f _ (by simp [hw, hw.append_closed])) (by simp [RA]) (by simp <;> rfl) (by kernel_rfl) ?_
  simp
  refine AOps.callIs hP hn rfl [] 100 (name_run f _ (by simp [hw, hw.append_closed])) (by simp [RA]) (by simp <;> rfl) (by kernel_rfl) ?_
  simp
  refine AOps.callIs hP hn rfl [] 100 (refName_run f _ (by simp [hw, hw.append_closed])) (by simp [RA]) (by simp <;> rfl) (by kernel_rfl) ?_
  rcases find_spec s with ⟨g1, g2⟩ | ⟨j, hj, g1, g3, g2⟩
  · have hf0 : findOf s = 0 := by simp [findOf, g1]
    simp [g1, hf0]
    refine AGo.loopN [1, 2, 8, 9, 10, 11, 74] (fun i => [.int .i64 n, .str s, .bool false, .int .i64 (ofField n), .bool (ofHigh n), .bool (fnd s i), .int .i64 i]) (fun _ => L) 9 (by simp [fnd]) rfl (fun i hi2 ih => ?_) ?_
    · refine AGo.go hP hn rfl [] kp4 100 (by kernel_rfl) ?_
      have hi' : (i : Int) < 9 := by omega
      have w1 : IntKind.i64.wrap ((i : Int) + 1) = i + 1 := wrap_id (by omega) (by omega)
      have hin := index_name i hi2
      have hfn := find_name i hi2
      by_cases hs : fnd s i = true
      · simp [-wrap_i64, hi', hs]
        refine AOps.callIs hP hn rfl [] 100 (name_run i _ (by simp [hw, hw.append_closed])) (by simp [RA]) (by simp <;> rfl) (by kernel_rfl) ?_
        simp [-wrap_i64]
        refine AOps.callIs hP hn rfl [] 100 (find_run (nameOf i) _ (by simp [hw, hw.append_closed])) (by simp [RA]) (by simp <;> rfl) (by kernel_rfl) ?_
        simp [-wrap_i64, hin, hfn, w1]
        exact AGo.again ih (by simp [fnd, hs]) rfl
      · simp [-wrap_i64, hi', hs]
        refine AOps.callIs hP hn rfl [] 100 (refName_run i _ (by simp [hw, hw.append_closed])) (by simp [RA]) (by simp <;> rfl) (by kernel_rfl) ?_
        simp [-wrap_i64]
        refine AOps.callIs hP hn rfl [] 100 (name_run i _ (by simp [hw, hw.append_closed])) (by simp [RA]) (by simp <;> rfl) (by kernel_rfl) ?_
        simp [-wrap_i64]
        refine AOps.callIs hP hn rfl [] 100 (find_run (nameOf i) _ (by simp [hw, hw.append_closed])) (by simp [RA]) (by simp <;> rfl) (by kernel_rfl) ?_
        simp [-wrap_i64, hin, hfn, w1]
        exact AGo.again ih (by simp [fnd, hs]) rfl
    · refine AGo.go hP hn rfl [] kp4 100 (by kernel_rfl) ?_
      by_cases hn1 : n < 0
      · have h1 : ofField n = -1 := by simp [ofField, hn1]
        have h2 : ofHigh n = false := by simp [ofHigh]; omega
        simp [g2, hn1, h1, h2]
        exact AGo.ret_is hP Try.func4 hL hw (by simp [Try.f4] <;> rfl) rfl rfl rfl
      · by_cases hn2 : 15 < n
        · have h1 : ofField n = -1 := by simp [ofField]; omega
          have h2 : ofHigh n = false := by simp [ofHigh]; omega
          simp [g2, hn1, hn2, h1, h2]
          exact AGo.ret_is hP Try.func4 hL hw (by simp [Try.f4] <;> rfl) rfl rfl rfl
        · obtain ⟨h1, h2⟩ := word_field (n := n) ⟨by omega, by omega⟩
          simp [g2, hn1, hn2]
          refine AOps.callIs hP hn rfl [] 100 (refPlace_run (ofField n) _ (by simp [hw, hw.append_closed])) (by simp [RA]) (by simp <;> rfl) (by kernel_rfl) ?_
          by_cases h3 : ofHigh n = true
          · have h4 := h2 h3
            rw [h3] at h1
            simp only [if_true] at h1
            have w2 : IntKind.i64.wrap (place (ofField n) + 1) = n := by rw [h1]; exact wrap_id (by omega) (by omega)
            simp [-wrap_i64, g2, h3, w2]
            refine AOps.callIs hP hn rfl [] 100 (refWidth_run (ofField n) _ (by simp [hw, hw.append_closed])) (by simp [RA]) (by simp <;> rfl) (by kernel_rfl) ?_
            simp [h4]
            exact AGo.ret_is hP Try.func4 hL hw (by simp [Try.f4] <;> rfl) rfl rfl rfl
          · simp only [h3, Bool.false_eq_true, if_false, Int.add_zero] at h1
            simp [-wrap_i64, g2, h3, h1]
            exact AGo.ret_is hP Try.func4 hL hw (by simp [Try.f4] <;> rfl) rfl rfl rfl
  · have hf0 : findOf s = (j : Int) := by unfold findOf; rw [g1, if_neg (by omega)]
    have hne : s.toList ≠ [] := by rw [← g3]; exact name_ne j hj
    have hj0 : (0 : Int) ≤ (j : Int) := by omega
    simp [g1, hf0, hj0]
    refine AOps.callIs hP hn rfl [] 100 (refName_run j _ (by simp [hw, hw.append_closed])) (by simp [RA]) (by simp <;> rfl) (by kernel_rfl) ?_
    have hne2 : (s.toList == []) = false := by simpa using hne
    have hne3 : s.toList.isEmpty = false := by simpa using hne
    simp [g3, hne, hne2, hne3]
    refine AGo.loopN [1, 2, 8, 9, 10, 11, 74] (fun i => [.int .i64 n, .str s, .bool true, .int .i64 (ofField n), .bool (ofHigh n), .bool (fnd s i), .int .i64 i]) (fun _ => L) 9 (by simp [fnd]) rfl (fun i hi2 ih => ?_) ?_
    · refine AGo.go hP hn rfl [] kp4 100 (by kernel_rfl) ?_
      have hi' : (i : Int) < 9 := by omega
      have w1 : IntKind.i64.wrap ((i : Int) + 1) = i + 1 := wrap_id (by omega) (by omega)
      have hin := index_name i hi2
      have hfn := find_name i hi2
      by_cases hs : fnd s i = true
      · simp [-wrap_i64, hi', hs]
        refine AOps.callIs hP hn rfl [] 100 (name_run i _ (by simp [hw, hw.append_closed])) (by simp [RA]) (by simp <;> rfl) (by kernel_rfl) ?_
        simp [-wrap_i64]
        refine AOps.callIs hP hn rfl [] 100 (find_run (nameOf i) _ (by simp [hw, hw.append_closed])) (by simp [RA]) (by simp <;> rfl) (by kernel_rfl) ?_
        simp [-wrap_i64, hin, hfn, w1]
        exact AGo.again ih (by simp [fnd, hs]) rfl
      · simp [-wrap_i64, hi', hs]
        refine AOps.callIs hP hn rfl [] 100 (refName_run i _ (by simp [hw, hw.append_closed])) (by simp [RA]) (by simp <;> rfl) (by kernel_rfl) ?_
        simp [-wrap_i64]
        refine AOps.callIs hP hn rfl [] 100 (name_run i _ (by simp [hw, hw.append_closed])) (by simp [RA]) (by simp <;> rfl) (by kernel_rfl) ?_
        simp [-wrap_i64]
        refine AOps.callIs hP hn rfl [] 100 (find_run (nameOf i) _ (by simp [hw, hw.append_closed])) (by simp [RA]) (by simp <;> rfl) (by kernel_rfl) ?_
        simp [-wrap_i64, hin, hfn, w1]
        exact AGo.again ih (by simp [fnd, hs]) rfl
    · refine AGo.go hP hn rfl [] kp4 100 (by kernel_rfl) ?_
      by_cases hn1 : n < 0
      · have h1 : ofField n = -1 := by simp [ofField, hn1]
        have h2 : ofHigh n = false := by simp [ofHigh]; omega
        simp [g2, hn1, h1, h2]
        exact AGo.ret_is hP Try.func4 hL hw (by simp [Try.f4] <;> rfl) rfl rfl rfl
      · by_cases hn2 : 15 < n
        · have h1 : ofField n = -1 := by simp [ofField]; omega
          have h2 : ofHigh n = false := by simp [ofHigh]; omega
          simp [g2, hn1, hn2, h1, h2]
          exact AGo.ret_is hP Try.func4 hL hw (by simp [Try.f4] <;> rfl) rfl rfl rfl
        · obtain ⟨h1, h2⟩ := word_field (n := n) ⟨by omega, by omega⟩
          simp [g2, hn1, hn2]
          refine AOps.callIs hP hn rfl [] 100 (refPlace_run (ofField n) _ (by simp [hw, hw.append_closed])) (by simp [RA]) (by simp <;> rfl) (by kernel_rfl) ?_
          by_cases h3 : ofHigh n = true
          · have h4 := h2 h3
            rw [h3] at h1
            simp only [if_true] at h1
            have w2 : IntKind.i64.wrap (place (ofField n) + 1) = n := by rw [h1]; exact wrap_id (by omega) (by omega)
            simp [-wrap_i64, g2, h3, w2]
            refine AOps.callIs hP hn rfl [] 100 (refWidth_run (ofField n) _ (by simp [hw, hw.append_closed])) (by simp [RA]) (by simp <;> rfl) (by kernel_rfl) ?_
            simp [h4]
            exact AGo.ret_is hP Try.func4 hL hw (by simp [Try.f4] <;> rfl) rfl rfl rfl
          · simp only [h3, Bool.false_eq_true, if_false, Int.add_zero] at h1
            simp [-wrap_i64, g2, h3, h1]
            exact AGo.ret_is hP Try.func4 hL hw (by simp [Try.f4] <;> rfl) rfl rfl rfl

end Go.Proofs.Ytpneikbihcoaaaa.Vm

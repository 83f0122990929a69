/- The law of the algebra of sets, walked. -/
import Derived.Test.YtpneikbihcoaaaaIset14
import Derived.Test.YtpneikbihcoaaaaSet2
open Go Go.Proofs Go.Proofs.Ytpneikbihcoaaaa
namespace Go.Proofs.Ytpneikbihcoaaaa.Vm
set_option linter.unusedVariables false
set_option linter.unusedSimpArgs false

theorem and_is (a b : List Sp) (ha : a.length < 1099511627776) (hb : b.length < 1099511627776) (hoa : OkS a) (hob : OkS b) (L : List AObj) (hw : WFL L) :
    ACall Try.prog 41 [.slice (spL a), .slice (spL b)] L (Is (.slice (spL (andS a b))) L) := (and_run a b ha hb hoa hob L hw).rowS hw
theorem not_is (a : List Sp) (ha : a.length < 1099511627775) (hoa : OkS a) (w : Int) (L : List AObj) (hw : WFL L) :
    ACall Try.prog 43 [.slice (spL a), .int .i64 w] L (Is (.slice (spL (notW w a))) L) := (not_run a ha hoa w L hw).rowS hw

set_option maxRecDepth 8000 in
set_option maxHeartbeats 4000000 in
theorem laws_law (a b c : List Sp) (ha : OkS a) (hb : OkS b) (hc : OkS c) (L : List AObj) (hw : WFL L) :
    ACall Try.prog 11 [.slice (spL a), .slice (spL b), .slice (spL c)] L (Is (.bool true) L) := by
  refine ACall.walk (by kernel_rfl) Try.func11 rfl rfl rfl rfl [] (by kernel_rfl) kp11 200 fun cx hP hn hL => ?_
  simp [Try.f11]
  refine AOps.callIs hP hn rfl [] 200 (awake15_run _ (by simp [hw, hw.append_closed])) (by simp) (by simp <;> rfl) (by kernel_rfl) ?_
  by_cases h1 : (40 : Int) < a.length ∨ (40 : Int) < b.length ∨ (40 : Int) < c.length
  · have key : ∀ s : AState, True := fun _ => trivial
    by_cases g1 : (40 : Int) < a.length
    · simp [g1]
      refine AOps.callIs hP hn rfl [] 200 (awake15_run _ (by simp [hw, hw.append_closed])) (by simp) (by simp <;> rfl) (by kernel_rfl) ?_
      simp
      exact AGo.ret_is hP Try.func11 hL hw (by simp [Try.f11] <;> rfl) rfl rfl rfl
    · by_cases g2 : (40 : Int) < b.length
      · simp [g1, g2]
        refine AOps.callIs hP hn rfl [] 200 (awake15_run _ (by simp [hw, hw.append_closed])) (by simp) (by simp <;> rfl) (by kernel_rfl) ?_
        simp
        exact AGo.ret_is hP Try.func11 hL hw (by simp [Try.f11] <;> rfl) rfl rfl rfl
      · have g3 : (40 : Int) < c.length := by omega
        simp [g1, g2, g3]
        refine AOps.callIs hP hn rfl [] 200 (awake15_run _ (by simp [hw, hw.append_closed])) (by simp) (by simp <;> rfl) (by kernel_rfl) ?_
        simp
        exact AGo.ret_is hP Try.func11 hL hw (by simp [Try.f11] <;> rfl) rfl rfl rfl
  · have g1 : ¬ (40 : Int) < a.length := by omega
    have g2 : ¬ (40 : Int) < b.length := by omega
    have g3 : ¬ (40 : Int) < c.length := by omega
    have l1 := and_len (notS topS a) (notS topS b)
    have l2 := not_len topS a
    have l3 := not_len topS b
    have l4 := or_len a b
    have l5 := or_len b a
    have l6 := and_len a c
    have l7 := and_len b c
    have l8 := norm_len topS a
    have l9 := not_len topS (notS topS a)
    have l10 := not_len topS (orS a b)
    have l11 := and_len (orS a b) c
    have l12 := and_len a (orS a b)
    have oa := okS_not ha
    have ob := okS_not hb
    have oab := okS_or ha hb
    have oba := okS_or hb ha
    have oac := okS_and (b := c) ha
    have obc := okS_and (b := c) hb
    simp [g1, g2, g3]
    · skip
      refine AOps.callIs hP hn rfl [] 200 (norm_is a (by omega) ha 64 _ (by simp [hw, hw.append_closed])) (by simp) (by simp <;> rfl) (by kernel_rfl) ?_
      simp
      refine AOps.callIs hP hn rfl [] 200 (not_is a (by omega) ha 64 _ (by simp [hw, hw.append_closed])) (by simp) (by simp <;> rfl) (by kernel_rfl) ?_
      simp
      refine AOps.callIs hP hn rfl [] 200 (not_is b (by omega) hb 64 _ (by simp [hw, hw.append_closed])) (by simp) (by simp <;> rfl) (by kernel_rfl) ?_
      simp
      simp only [normW64, notW64]
      refine AOps.callIs hP hn rfl [] 200 (and_is (notS topS a) (notS topS b) (by omega) (by omega) oa ob _ (by simp [hw, hw.append_closed])) (by simp) (by simp <;> rfl) (by kernel_rfl) ?_
      simp
      refine AOps.callIs hP hn rfl [] 200 (and_is a c (by omega) (by omega) ha hc _ (by simp [hw, hw.append_closed])) (by simp) (by simp <;> rfl) (by kernel_rfl) ?_
      simp
      refine AOps.callIs hP hn rfl [] 200 (and_is b c (by omega) (by omega) hb hc _ (by simp [hw, hw.append_closed])) (by simp) (by simp <;> rfl) (by kernel_rfl) ?_
      simp
      refine AOps.callIs hP hn rfl [] 200 (or_run (andS a c) (andS b c) (by omega) (by omega) oac obc _ (by simp [hw, hw.append_closed])) (by simp) (by simp <;> rfl) (by kernel_rfl) ?_
      simp
      refine AOps.callIs hP hn rfl [] 200 (or_run a b (by omega) (by omega) ha hb _ (by simp [hw, hw.append_closed])) (by simp) (by simp <;> rfl) (by kernel_rfl) ?_
      simp
      refine AOps.callIs hP hn rfl [] 200 (not_is (orS a b) (by omega) oab 64 _ (by simp [hw, hw.append_closed])) (by simp) (by simp <;> rfl) (by kernel_rfl) ?_
      simp
      simp only [normW64, notW64]
      refine AOps.callIs hP hn rfl [] 200 (same_run (notS topS (orS a b)) (andS (notS topS a) (notS topS b)) (by omega) _ (by simp [hw, hw.append_closed])) (by simp) (by simp <;> rfl) (by kernel_rfl) ?_
      rw [same_eq (morgan ha hb)]
      simp
      refine AOps.callIs hP hn rfl [] 200 (or_run a b (by omega) (by omega) ha hb _ (by simp [hw, hw.append_closed])) (by simp) (by simp <;> rfl) (by kernel_rfl) ?_
      simp
      refine AOps.callIs hP hn rfl [] 200 (and_is (orS a b) c (by omega) (by omega) oab hc _ (by simp [hw, hw.append_closed])) (by simp) (by simp <;> rfl) (by kernel_rfl) ?_
      simp
      refine AOps.callIs hP hn rfl [] 200 (same_run (andS (orS a b) c) (orS (andS a c) (andS b c)) (by omega) _ (by simp [hw, hw.append_closed])) (by simp) (by simp <;> rfl) (by kernel_rfl) ?_
      rw [same_eq distrib]
      simp
      refine AOps.callIs hP hn rfl [] 200 (not_is a (by omega) ha 64 _ (by simp [hw, hw.append_closed])) (by simp) (by simp <;> rfl) (by kernel_rfl) ?_
      simp
      simp only [normW64, notW64]
      refine AOps.callIs hP hn rfl [] 200 (not_is (notS topS a) (by omega) oa 64 _ (by simp [hw, hw.append_closed])) (by simp) (by simp <;> rfl) (by kernel_rfl) ?_
      simp
      simp only [normW64, notW64]
      refine AOps.callIs hP hn rfl [] 200 (same_run (notS topS (notS topS a)) (normS topS a) (by omega) _ (by simp [hw, hw.append_closed])) (by simp) (by simp <;> rfl) (by kernel_rfl) ?_
      rw [same_eq (not_not_set ha)]
      simp
      refine AOps.callIs hP hn rfl [] 200 (or_run a b (by omega) (by omega) ha hb _ (by simp [hw, hw.append_closed])) (by simp) (by simp <;> rfl) (by kernel_rfl) ?_
      simp
      refine AOps.callIs hP hn rfl [] 200 (or_run b a (by omega) (by omega) hb ha _ (by simp [hw, hw.append_closed])) (by simp) (by simp <;> rfl) (by kernel_rfl) ?_
      simp
      refine AOps.callIs hP hn rfl [] 200 (same_run (orS a b) (orS b a) (by omega) _ (by simp [hw, hw.append_closed])) (by simp) (by simp <;> rfl) (by kernel_rfl) ?_
      rw [same_eq or_comm_set]
      simp
      refine AOps.callIs hP hn rfl [] 200 (or_run a b (by omega) (by omega) ha hb _ (by simp [hw, hw.append_closed])) (by simp) (by simp <;> rfl) (by kernel_rfl) ?_
      simp
      refine AOps.callIs hP hn rfl [] 200 (and_is a (orS a b) (by omega) (by omega) ha oab _ (by simp [hw, hw.append_closed])) (by simp) (by simp <;> rfl) (by kernel_rfl) ?_
      simp
      refine AOps.callIs hP hn rfl [] 200 (same_run (andS a (orS a b)) (normS topS a) (by omega) _ (by simp [hw, hw.append_closed])) (by simp) (by simp <;> rfl) (by kernel_rfl) ?_
      rw [same_eq absorb]
      simp
      refine AOps.callIs hP hn rfl [] 200 (not_is a (by omega) ha 64 _ (by simp [hw, hw.append_closed])) (by simp) (by simp <;> rfl) (by kernel_rfl) ?_
      simp
      simp only [normW64, notW64]
      refine AOps.callIs hP hn rfl [] 200 (and_is a (notS topS a) (by omega) (by omega) ha oa _ (by simp [hw, hw.append_closed])) (by simp) (by simp <;> rfl) (by kernel_rfl) ?_
      rw [and_not_set ha]
      simp
      exact AGo.ret_is hP Try.func11 hL hw (by simp [Try.f11] <;> rfl) rfl rfl rfl

end Go.Proofs.Ytpneikbihcoaaaa.Vm


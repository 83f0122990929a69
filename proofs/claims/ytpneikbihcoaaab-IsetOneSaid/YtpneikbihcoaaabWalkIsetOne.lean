/- The law of two sets' forms, walked. -/
import Derived.Test.YtpneikbihcoaaabIset14
import Derived.Test.YtpneikbihcoaaabSet5
open Go Go.Proofs Go.Proofs.Ytpneikbihcoaaab
namespace Go.Proofs.Ytpneikbihcoaaab.Vm
set_option linter.unusedVariables false
set_option linter.unusedSimpArgs false

theorem u64L_get {E : List Int} {i : Nat} (h : i < E.length) : (u64L E)[i]? = some (.int .u64 (E.getD i 0)) := by
  simp [u64L, h, List.getD]

set_option maxRecDepth 8000 in
set_option maxHeartbeats 4000000 in
theorem one_law (a b : List Sp) (ha : OkS a) (hb : OkS b) (L : List AObj) (hw : WFL L) :
    ACall Try.prog 4 [.slice (spL a), .slice (spL b)] L (Is (.bool true) L) := by
  refine ACall.walk (by kernel_rfl) Try.func4 rfl rfl rfl rfl [] (by kernel_rfl) kp4 200 fun c hP hn hL => ?_
  simp [Try.f4]
  refine AOps.callIs hP hn rfl [] 200 (awake15_run _ (by simp [hw, hw.append_closed])) (by simp) (by simp <;> rfl) (by kernel_rfl) ?_
  by_cases g1 : (60 : Int) < a.length
  · simp [g1]
    refine AOps.callIs hP hn rfl [] 200 (awake15_run _ (by simp [hw, hw.append_closed])) (by simp) (by simp <;> rfl) (by kernel_rfl) ?_
    simp
    exact AGo.ret_is hP Try.func4 hL hw (by simp [Try.f4] <;> rfl) rfl rfl rfl
  by_cases g2 : (60 : Int) < b.length
  · simp [g1, g2]
    refine AOps.callIs hP hn rfl [] 200 (awake15_run _ (by simp [hw, hw.append_closed])) (by simp) (by simp <;> rfl) (by kernel_rfl) ?_
    simp
    exact AGo.ret_is hP Try.func4 hL hw (by simp [Try.f4] <;> rfl) rfl rfl rfl
  have l1 := normW_len 64 a
  have l2 := normW_len 64 b
  have hpl := one_law_plain ha hb
  simp [g1, g2]
  refine AOps.callIs hP hn rfl [] 200 (norm_is a (by omega) ha 64 _ (by simp [hw, hw.append_closed])) (by simp) (by simp <;> rfl) (by kernel_rfl) ?_
  simp
  refine AOps.callIs hP hn rfl [] 200 (norm_is b (by omega) hb 64 _ (by simp [hw, hw.append_closed])) (by simp) (by simp <;> rfl) (by kernel_rfl) ?_
  simp
  generalize normW 64 a = X at *
  generalize normW 64 b = Y at *
  refine AOps.callIs hP hn rfl [] 200 (edges_run X Y (by omega) (by omega) 0 _ (by simp [hw, hw.append_closed])) (by simp) (by simp <;> rfl) (by kernel_rfl) ?_
  have hEl : (edgesS X Y 0).length = 5 + 4 * X.length + 4 * Y.length := by
    rw [edgesS, List.length_append, List.length_append, edges_len, edges_len]; simp
  generalize edgesS X Y 0 = E at *
  simp
  obtain ⟨p, hp⟩ : ∃ p : Int → Bool, p = fun n => hasS a n != hasS b n := ⟨_, rfl⟩
  rw [← hp] at hpl
  refine AGo.loopE (α := Nat) (fun i => i ≤ E.length) (fun i => i = E.length) (fun i => E.length - i) [0, 1, 5, 6, 7, 29, 30, 31]
    (fun i => [.slice (spL a), .slice (spL b), .slice (spL X), .slice (spL Y), .bool ((E.take i).any p), .slice (u64L E), .int .i64 E.length, .int .i64 i])
    (fun i => L) 0 (by kernel_rfl) (by kernel_rfl) (by kernel_rfl) (by simp) (by simp) (by simp) ?_ ?_
  rotate_left
  · rintro i rfl
    refine AGo.go hP hn rfl [] kp4 200 (by kernel_rfl) ?_
    rw [List.take_length, hpl]
    simp
    refine AOps.callIs hP hn rfl [] 200 (same_run X Y (by omega) _ (by simp [hw, hw.append_closed])) (by simp) (by simp <;> rfl) (by kernel_rfl) ?_
    cases sameS X Y <;> simp
    all_goals exact AGo.ret_is hP Try.func4 hL hw (by simp [Try.f4] <;> rfl) rfl rfl rfl
  intro i y z hR hi ih hex
  refine AGo.go hP hn rfl [100000] kp4 200 (hR.ok _) ?_
  by_cases hlt : i < E.length
  · have hlt2 : (i : Int) < E.length := by omega
    have hg := u64L_get hlt
    have hst := any_step (p := p) hlt
    generalize E.getD i 0 = x at *
    have w1 : IntKind.i64.wrap ((i : Int) + 1) = ((i + 1 : Nat) : Int) := by rw [wrap_id (by omega) (by omega)]; simp
    have cA : ∀ L, WFL L → ACall Try.prog 12 [.slice (spL a), .int .u64 x] L (Is (.bool (hasS a x)) L) := fun L hw => rhas_run a (by omega) x L hw
    have cB : ∀ L, WFL L → ACall Try.prog 12 [.slice (spL b), .int .u64 x] L (Is (.bool (hasS b x)) L) := fun L hw => rhas_run b (by omega) x L hw
    have hpx : p x = (hasS a x != hasS b x) := by rw [hp]
    have ih1 := ih (i + 1) (by omega) (by omega)
    rw [hst, hpx] at ih1
    generalize hasS a x = u at *
    generalize hasS b x = v at *
    generalize (E.take i).any p = q at *
    cases q
    · simp [-wrap_i64, hlt2, hg]
      refine AOps.callIs hP hn rfl [100000] 200 (cA _ (by simp [hw, hw.append_closed])) (by simp) (by simp <;> rfl) (todoOk_mono _ _ (by simp only [todoOk, hR.y, hR.z, hR.k, Bool.and_self, Bool.and_true] <;> kernel_rfl)) ?_
      simp [-wrap_i64]
      refine AOps.callIs hP hn rfl [100000] 200 (cB _ (by simp [hw, hw.append_closed])) (by simp) (by simp <;> rfl) (todoOk_mono _ _ (by simp only [todoOk, hR.y, hR.z, hR.k, Bool.and_self, Bool.and_true] <;> kernel_rfl)) ?_
      simp [-wrap_i64, w1]
      exact AGo.again ih1 (by cases u <;> cases v <;> simp) (by simp)
    · simp [-wrap_i64, hlt2, hg, w1]
      exact AGo.again ih1 (by simp) (by simp)
  · have hil : i = E.length := by omega
    subst hil
    simp [-List.take_length]
    exact AGo.again (hex _ rfl) (by simp) (by simp)

end Go.Proofs.Ytpneikbihcoaaab.Vm


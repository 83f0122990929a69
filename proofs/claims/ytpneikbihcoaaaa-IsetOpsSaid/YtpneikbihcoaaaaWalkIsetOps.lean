/- The law of what is in both, in one of both, and not in a set, walked. -/
import Derived.Test.YtpneikbihcoaaaaIset14
import Derived.Test.YtpneikbihcoaaaaSet3
import Derived.Test.YtpneikbihcoaaaaWalkIsetNorm
import Derived.Test.YtpneikbihcoaaaaWalkIsetLaws
open Go Go.Proofs Go.Proofs.Ytpneikbihcoaaaa
namespace Go.Proofs.Ytpneikbihcoaaaa.Vm
set_option linter.unusedVariables false
set_option linter.unusedSimpArgs false

set_option maxRecDepth 8000 in
set_option maxHeartbeats 4000000 in
theorem ops_law (a b : List Sp) (ha : OkS a) (hb : OkS b) (n : Int) (hn0 : 0 ≤ n ∧ n < 18446744073709551616) (L : List AObj) (hw : WFL L) :
    ACall Try.prog 10 [.slice (spL a), .slice (spL b), .int .u64 n] L (Is (.bool true) L) := by
  refine ACall.walk (by kernel_rfl) Try.func10 rfl rfl rfl rfl [] (by kernel_rfl) kp10 200 fun c hP hn hL => ?_
  simp [Try.f10]
  refine AOps.callIs hP hn rfl [] 200 (awake15_run _ (by simp [hw, hw.append_closed])) (by simp) (by simp <;> rfl) (by kernel_rfl) ?_
  by_cases g1 : (60 : Int) < a.length
  · simp [g1]
    refine AOps.callIs hP hn rfl [] 200 (awake15_run _ (by simp [hw, hw.append_closed])) (by simp) (by simp <;> rfl) (by kernel_rfl) ?_
    simp
    exact AGo.ret_is hP Try.func10 hL hw (by simp [Try.f10] <;> rfl) rfl rfl rfl
  by_cases g2 : (60 : Int) < b.length
  · simp [g1, g2]
    refine AOps.callIs hP hn rfl [] 200 (awake15_run _ (by simp [hw, hw.append_closed])) (by simp) (by simp <;> rfl) (by kernel_rfl) ?_
    simp
    exact AGo.ret_is hP Try.func10 hL hw (by simp [Try.f10] <;> rfl) rfl rfl rfl
  have l1 := and_len a b
  have l2 := or_len a b
  have l3 : (notW 64 a).length ≤ a.length + 1 := not_len topS a
  have l4 : (notW 32 a).length ≤ a.length + 1 := not_len 4294967295 a
  have l5 : notW 33 a = [] := rfl
  have oN : OkS (notW 64 a) := okS_not ha
  have oM : OkS (notW 32 a) := okS_of (not_form (by decide) (okS_low ha)) (by decide) fun x hx => ((not_mem (by decide) (okS_low ha)).1 hx).1.1
  have oA : OkS (andS a b) := okS_and ha
  have oO := okS_or ha hb
  simp [g1, g2]
  refine AOps.callIs hP hn rfl [] 200 (and_is a b (by omega) (by omega) ha hb _ (by simp [hw, hw.append_closed])) (by simp) (by simp <;> rfl) (by kernel_rfl) ?_
  simp
  refine AOps.callIs hP hn rfl [] 200 (or_run a b (by omega) (by omega) ha hb _ (by simp [hw, hw.append_closed])) (by simp) (by simp <;> rfl) (by kernel_rfl) ?_
  simp
  refine AOps.callIs hP hn rfl [] 200 (not_is a (by omega) ha 64 _ (by simp [hw, hw.append_closed])) (by simp) (by simp <;> rfl) (by kernel_rfl) ?_
  simp
  refine AOps.callIs hP hn rfl [] 200 (not_is a (by omega) ha 32 _ (by simp [hw, hw.append_closed])) (by simp) (by simp <;> rfl) (by kernel_rfl) ?_
  simp
  refine AOps.callIs hP hn rfl [] 200 (rright_run (andS a b) (by omega) oA 64 _ (by simp [hw, hw.append_closed])) (by simp) (by simp <;> rfl) (by kernel_rfl) ?_
  rw [right64 (and_form a b)]
  simp
  refine AOps.callIs hP hn rfl [] 200 (rright_run (orS a b) (by omega) oO 64 _ (by simp [hw, hw.append_closed])) (by simp) (by simp <;> rfl) (by kernel_rfl) ?_
  rw [right64 (or_form a b)]
  simp
  refine AOps.callIs hP hn rfl [] 200 (rright_run (notW 64 a) (by omega) oN 64 _ (by simp [hw, hw.append_closed])) (by simp) (by simp <;> rfl) (by kernel_rfl) ?_
  rw [right64 (l := notW 64 a) (not_form (by decide) (okS_low ha))]
  simp
  refine AOps.callIs hP hn rfl [] 200 (rright_run (notW 32 a) (by omega) oM 32 _ (by simp [hw, hw.append_closed])) (by simp) (by simp <;> rfl) (by kernel_rfl) ?_
  rw [right32 (l := notW 32 a) (not_form (by decide) (okS_low ha))]
  simp
  refine AOps.callIs hP hn rfl [] 200 (not_is a (by omega) ha 33 _ (by simp [hw, hw.append_closed])) (by simp) (by simp <;> rfl) (by kernel_rfl) ?_
  rw [l5]
  simp
  refine AOps.callIs hP hn rfl [] 200 (edges_run a b (by omega) (by omega) n _ (by simp [hw, hw.append_closed])) (by simp) (by simp <;> rfl) (by kernel_rfl) ?_
  have hEl : (edgesS a b n).length = 5 + 4 * a.length + 4 * b.length := by
    rw [edgesS, List.length_append, List.length_append, edges_len, edges_len]; simp
  have hEo := edges_ok ha hb hn0
  generalize edgesS a b n = E at *
  simp
  refine AGo.loopE (α := Nat) (fun i => i ≤ E.length) (fun i => i = E.length) (fun i => E.length - i) [0, 1, 7, 8, 9, 10, 65, 66, 67]
    (fun i => [.slice (spL a), .slice (spL b), .slice (spL (andS a b)), .slice (spL (orS a b)), .slice (spL (notW 64 a)), .slice (spL (notW 32 a)), .slice (u64L E), .int .i64 E.length, .int .i64 i])
    (fun i => L) 0 (by kernel_rfl) (by kernel_rfl) (by kernel_rfl) (by simp) (by simp) (by simp) ?_ ?_
  rotate_left
  · rintro i rfl
    refine AGo.go hP hn rfl [] kp10 200 (by kernel_rfl) ?_
    simp
    exact AGo.ret_is hP Try.func10 hL hw (by simp [Try.f10] <;> rfl) rfl rfl rfl
  intro i y z hR hi ih hex
  refine AGo.go hP hn rfl [100000] kp10 200 (hR.ok _) ?_
  by_cases hlt : i < E.length
  · have hlt2 : (i : Int) < E.length := by omega
    have hg := u64L_get hlt
    have hx : 0 ≤ E.getD i 0 ∧ E.getD i 0 < 18446744073709551616 := hEo _ (by simp [List.getD, hlt])
    generalize E.getD i 0 = x at *
    have w1 : IntKind.i64.wrap ((i : Int) + 1) = ((i + 1 : Nat) : Int) := by rw [wrap_id (by omega) (by omega)]; simp
    have cA : ∀ L, WFL L → ACall Try.prog 38 [.slice (spL a), .int .u64 x] L (Is (.bool (hasS a x)) L) := fun L hw => rhas_run a (by omega) x L hw
    have cB : ∀ L, WFL L → ACall Try.prog 38 [.slice (spL b), .int .u64 x] L (Is (.bool (hasS b x)) L) := fun L hw => rhas_run b (by omega) x L hw
    have c1 : ∀ L, WFL L → ACall Try.prog 38 [.slice (spL (andS a b)), .int .u64 x] L (Is (.bool (hasS a x && hasS b x)) L) := fun L hw => by rw [← has_and hx]; exact rhas_run _ (by omega) x L hw
    have c2 : ∀ L, WFL L → ACall Try.prog 38 [.slice (spL (orS a b)), .int .u64 x] L (Is (.bool (hasS a x || hasS b x)) L) := fun L hw => by rw [← has_or hx]; exact rhas_run _ (by omega) x L hw
    have c3 : ∀ L, WFL L → ACall Try.prog 38 [.slice (spL (notW 64 a)), .int .u64 x] L (Is (.bool (!hasS a x)) L) := fun L hw => by rw [← has_not hx ha]; exact rhas_run _ (by omega) x L hw
    have c4 : ∀ L, WFL L → ACall Try.prog 38 [.slice (spL (notW 32 a)), .int .u64 x] L (Is (.bool (!hasS a x && decide (x < 4294967296))) L) := fun L hw => by rw [← has_narrow hx ha]; exact rhas_run _ (by omega) x L hw
    generalize hasS a x = p at *
    generalize hasS b x = q at *
    generalize andS a b = A1 at *
    generalize orS a b = A2 at *
    generalize notW 64 a = A3 at *
    generalize notW 32 a = A4 at *
    simp [-wrap_i64, hlt2, hg]
    refine AOps.callIs hP hn rfl [100000] 200 (cA _ (by simp [hw, hw.append_closed])) (by simp) (by simp <;> rfl) (todoOk_mono _ _ (by simp only [todoOk, hR.y, hR.z, hR.k, Bool.and_self, Bool.and_true] <;> kernel_rfl)) ?_
    simp [-wrap_i64]
    refine AOps.callIs hP hn rfl [100000] 200 (cB _ (by simp [hw, hw.append_closed])) (by simp) (by simp <;> rfl) (todoOk_mono _ _ (by simp only [todoOk, hR.y, hR.z, hR.k, Bool.and_self, Bool.and_true] <;> kernel_rfl)) ?_
    simp [-wrap_i64]
    refine AOps.callIs hP hn rfl [100000] 200 (c1 _ (by simp [hw, hw.append_closed])) (by simp) (by simp <;> rfl) (todoOk_mono _ _ (by simp only [todoOk, hR.y, hR.z, hR.k, Bool.and_self, Bool.and_true] <;> kernel_rfl)) ?_
    by_cases hs : x < 4294967296 <;> cases p <;> cases q
    all_goals
      simp [-wrap_i64]
      refine AOps.callIs hP hn rfl [100000] 200 (c2 _ (by simp [hw, hw.append_closed])) (by simp) (by simp <;> rfl) (todoOk_mono _ _ (by simp only [todoOk, hR.y, hR.z, hR.k, Bool.and_self, Bool.and_true] <;> kernel_rfl)) ?_
      simp [-wrap_i64]
      refine AOps.callIs hP hn rfl [100000] 200 (c3 _ (by simp [hw, hw.append_closed])) (by simp) (by simp <;> rfl) (todoOk_mono _ _ (by simp only [todoOk, hR.y, hR.z, hR.k, Bool.and_self, Bool.and_true] <;> kernel_rfl)) ?_
      simp [-wrap_i64]
      refine AOps.callIs hP hn rfl [100000] 200 (c4 _ (by simp [hw, hw.append_closed])) (by simp) (by simp <;> rfl) (todoOk_mono _ _ (by simp only [todoOk, hR.y, hR.z, hR.k, Bool.and_self, Bool.and_true] <;> kernel_rfl)) ?_
      simp [-wrap_i64, w1, hs]
      exact AGo.again (ih (i + 1) (by omega) (by omega)) (by simp) (by simp)
  · have hil : i = E.length := by omega
    subst hil
    simp
    exact AGo.again (hex _ rfl) (by simp) (by simp)

end Go.Proofs.Ytpneikbihcoaaaa.Vm


/- The law of higher and lower words, walked. -/
import Derived.Test.YtpneikbihcoaaaaIset14
import Derived.Test.YtpneikbihcoaaaaSet4
import Derived.Test.YtpneikbihcoaaaaWalkIsetNorm
open Go Go.Proofs Go.Proofs.Ytpneikbihcoaaaa
namespace Go.Proofs.Ytpneikbihcoaaaa.Vm
set_option linter.unusedVariables false
set_option linter.unusedSimpArgs false

set_option maxRecDepth 8000 in
set_option maxHeartbeats 4000000 in
theorem words_law (l : List Sp) (hl : OkS l) (h n : Int) (hh : 0 ≤ h ∧ h < 4294967296) (hn0 : 0 ≤ n ∧ n < 18446744073709551616) (L : List AObj) (hw : WFL L) :
    ACall Try.prog 14 [.slice (spL l), .int .u32 h, .int .u64 n] L (Is (.bool true) L) := by
  refine ACall.walk (by kernel_rfl) Try.func14 rfl rfl rfl rfl [] (by kernel_rfl) kp14 200 fun c hP hn hL => ?_
  simp [Try.f14]
  refine AOps.callIs hP hn rfl [] 200 (awake15_run _ (by simp [hw, hw.append_closed])) (by simp) (by simp <;> rfl) (by kernel_rfl) ?_
  by_cases g1 : (60 : Int) < l.length
  · simp [g1]
    refine AOps.callIs hP hn rfl [] 200 (awake15_run _ (by simp [hw, hw.append_closed])) (by simp) (by simp <;> rfl) (by kernel_rfl) ?_
    simp
    exact AGo.ret_is hP Try.func14 hL hw (by simp [Try.f14] <;> rfl) rfl rfl rfl
  have l1 := normW_len 32 l
  have l2 : ((normW 32 l).map highS).length = (normW 32 l).length := by simp
  have l3 : ((normW 32 l).map (underS h)).length = (normW 32 l).length := by simp
  have o1 := okS_high hl
  have o2 := okS_under hl hh
  have r1 := right64 (high_form hl)
  have r2 := right64 (under_form (l := l) hh)
  simp [g1]
  refine AOps.callIs hP hn rfl [] 200 ((high_run l (by omega) hl _ (by simp [hw, hw.append_closed])).rowS (by simp [hw, hw.append_closed])) (by simp) (by simp <;> rfl) (by kernel_rfl) ?_
  simp [-List.map_map]
  refine AOps.callIs hP hn rfl [] 200 ((under_run h hh l (by omega) hl _ (by simp [hw, hw.append_closed])).rowS (by simp [hw, hw.append_closed])) (by simp) (by simp <;> rfl) (by kernel_rfl) ?_
  simp [-List.map_map]
  have hH : ∀ x, 0 ≤ x ∧ x < 18446744073709551616 → hasS ((normW 32 l).map highS) x = hasS l (x / 4294967296) := fun x hx => has_high hx
  have hU : ∀ x, 0 ≤ x ∧ x < 18446744073709551616 → hasS ((normW 32 l).map (underS h)) x = (x / 4294967296 == h && hasS l (x % 4294967296)) := fun x hx => has_under hl hx
  generalize (normW 32 l).map highS = A1 at *
  generalize (normW 32 l).map (underS h) = A2 at *
  refine AOps.callIs hP hn rfl [] 200 (rright_run A1 (by omega) o1 64 _ (by simp [hw, hw.append_closed])) (by simp) (by simp <;> rfl) (by kernel_rfl) ?_
  rw [r1]
  simp
  refine AOps.callIs hP hn rfl [] 200 (rright_run A2 (by omega) o2 64 _ (by simp [hw, hw.append_closed])) (by simp) (by simp <;> rfl) (by kernel_rfl) ?_
  rw [r2]
  simp
  refine AOps.callIs hP hn rfl [] 200 (edges_run A1 A2 (by omega) (by omega) n _ (by simp [hw, hw.append_closed])) (by simp) (by simp <;> rfl) (by kernel_rfl) ?_
  have hEl : (edgesS A1 A2 n).length = 5 + 4 * A1.length + 4 * A2.length := by
    rw [edgesS, List.length_append, List.length_append, edges_len, edges_len]; simp
  have hEo := edges_ok o1 o2 hn0
  generalize edgesS A1 A2 n = E at *
  simp
  refine AGo.loopE (α := Nat) (fun i => i ≤ E.length) (fun i => i = E.length) (fun i => E.length - i) [0, 1, 7, 8, 37, 38, 39]
    (fun i => [.slice (spL l), .int .u32 h, .slice (spL A1), .slice (spL A2), .slice (u64L E), .int .i64 E.length, .int .i64 i])
    (fun i => L) 0 (by kernel_rfl) (by kernel_rfl) (by kernel_rfl) (by simp) (by simp) (by simp) ?_ ?_
  rotate_left
  · rintro i rfl
    refine AGo.go hP hn rfl [] kp14 200 (by kernel_rfl) ?_
    simp
    exact AGo.ret_is hP Try.func14 hL hw (by simp [Try.f14] <;> rfl) rfl rfl rfl
  intro i y z hR hi ih hex
  refine AGo.go hP hn rfl [100000] kp14 200 (hR.ok _) ?_
  by_cases hlt : i < E.length
  · have hlt2 : (i : Int) < E.length := by omega
    have hg := u64L_get hlt
    have hx : 0 ≤ E.getD i 0 ∧ E.getD i 0 < 18446744073709551616 := hEo _ (by simp [List.getD, hlt])
    generalize E.getD i 0 = x at *
    have w1 : IntKind.i64.wrap ((i : Int) + 1) = ((i + 1 : Nat) : Int) := by rw [wrap_id (by omega) (by omega)]; simp
    have q1 : IntKind.u64.wrap (x.tdiv 4294967296) = x / 4294967296 := by rw [Int.tdiv_eq_ediv_of_nonneg hx.1, wrap_id64 (by omega) (by omega)]
    have q2 : x.tmod 4294967296 = x % 4294967296 := Int.tmod_eq_emod_of_nonneg hx.1
    have q3 : IntKind.u64.wrap h = h := wrap_id64 (by omega) (by omega)
    have c1 : ∀ L, WFL L → ACall Try.prog 38 [.slice (spL A1), .int .u64 x] L (Is (.bool (hasS l (x / 4294967296))) L) := fun L hw => by rw [← hH x hx]; exact rhas_run _ (by omega) x L hw
    have c2 : ∀ L, WFL L → ACall Try.prog 38 [.slice (spL A2), .int .u64 x] L (Is (.bool (x / 4294967296 == h && hasS l (x % 4294967296))) L) := fun L hw => by rw [← hU x hx]; exact rhas_run _ (by omega) x L hw
    have cA : ∀ L, WFL L → ACall Try.prog 38 [.slice (spL l), .int .u64 (x / 4294967296)] L (Is (.bool (hasS l (x / 4294967296))) L) := fun L hw => rhas_run l (by omega) _ L hw
    have cB : ∀ L, WFL L → ACall Try.prog 38 [.slice (spL l), .int .u64 (x % 4294967296)] L (Is (.bool (hasS l (x % 4294967296))) L) := fun L hw => rhas_run l (by omega) _ L hw
    generalize x / 4294967296 = u at *
    generalize x % 4294967296 = v at *
    generalize hasS l u = p at *
    generalize hasS l v = q at *
    have w3 : (u == h) = true ∨ (u == h) = false := by cases (u == h) <;> simp
    simp [-wrap_i64, -wrap_u64, hlt2, hg, q1, q2]
    refine AOps.callIs hP hn rfl [100000] 200 (c1 _ (by simp [hw, hw.append_closed])) (by simp) (by simp <;> rfl) (todoOk_mono _ _ (by simp only [todoOk, hR.y, hR.z, hR.k, Bool.and_self, Bool.and_true] <;> kernel_rfl)) ?_
    simp [-wrap_i64, -wrap_u64, -beq_iff_eq, q3]
    refine AOps.callIs hP hn rfl [100000] 200 (cA _ (by simp [hw, hw.append_closed])) (by simp) (by simp <;> rfl) (todoOk_mono _ _ (by simp only [todoOk, hR.y, hR.z, hR.k, Bool.and_self, Bool.and_true] <;> kernel_rfl)) ?_
    simp [-wrap_i64, -wrap_u64, -beq_iff_eq, q3]
    refine AOps.callIs hP hn rfl [100000] 200 (c2 _ (by simp [hw, hw.append_closed])) (by simp) (by simp <;> rfl) (todoOk_mono _ _ (by simp only [todoOk, hR.y, hR.z, hR.k, Bool.and_self, Bool.and_true] <;> kernel_rfl)) ?_
    rcases w3 with w3 | w3 <;> rw [w3]
    · simp [-wrap_i64, -wrap_u64, -beq_iff_eq, q3, w3]
      refine AOps.callIs hP hn rfl [100000] 200 (cB _ (by simp [hw, hw.append_closed])) (by simp) (by simp <;> rfl) (todoOk_mono _ _ (by simp only [todoOk, hR.y, hR.z, hR.k, Bool.and_self, Bool.and_true] <;> kernel_rfl)) ?_
      simp [-wrap_i64, -wrap_u64, -beq_iff_eq, w1]
      exact AGo.again (ih (i + 1) (by omega) (by omega)) (by simp) (by simp)
    · simp [-wrap_i64, -wrap_u64, -beq_iff_eq, q3, w3, w1]
      exact AGo.again (ih (i + 1) (by omega) (by omega)) (by simp) (by simp)
  · have hil : i = E.length := by omega
    subst hil
    simp
    exact AGo.again (hex _ rfl) (by simp) (by simp)

end Go.Proofs.Ytpneikbihcoaaaa.Vm


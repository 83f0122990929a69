/- The law of the numbers of which something is so, walked. -/
import Derived.Test.YtpneikbihcoaaaaIset14
import Derived.Test.YtpneikbihcoaaaaSet3
import Derived.Test.YtpneikbihcoaaaaWalkIsetNorm
open Go Go.Proofs Go.Proofs.Ytpneikbihcoaaaa
namespace Go.Proofs.Ytpneikbihcoaaaa.Vm
set_option linter.unusedVariables false
set_option linter.unusedSimpArgs false

set_option maxRecDepth 8000 in
set_option maxHeartbeats 4000000 in
theorem of_law (op k n : Int) (hk : 0 ≤ k ∧ k < 18446744073709551616) (hn0 : 0 ≤ n ∧ n < 18446744073709551616) (L : List AObj) (hw : WFL L) :
    ACall Try.prog 12 [.int .i64 op, .int .u64 k, .int .u64 n] L (Is (.bool true) L) := by
  refine ACall.walk (by kernel_rfl) Try.func12 rfl rfl rfl rfl [] (by kernel_rfl) kp12 200 fun c hP hn hL => ?_
  have l1 := ofL_len op k
  have l2 := normW_len 64 (ofL op k)
  have l3 := normW_len 32 (ofL op k)
  have o1 : OkS (normW 64 (ofL op k)) := okS_norm (okS_ofL hk)
  have o2 : OkS (normW 32 (ofL op k)) := okS_norm (okS_ofL hk)
  have e0 : normW 0 (ofL op k) = [] := rfl
  have r1 := right64 (l := normW 64 (ofL op k)) (norm_form _ _)
  have r2 := right32 (l := normW 32 (ofL op k)) (norm_form _ _)
  simp [Try.f12]
  refine AOps.callIs hP hn rfl [] 200 (of_run op k hk 64 _ (by simp [hw, hw.append_closed])) (by simp) (by simp <;> rfl) (by kernel_rfl) ?_
  simp
  refine AOps.callIs hP hn rfl [] 200 (of_run op k hk 32 _ (by simp [hw, hw.append_closed])) (by simp) (by simp <;> rfl) (by kernel_rfl) ?_
  simp
  refine AOps.callIs hP hn rfl [] 200 (awake15_run _ (by simp [hw, hw.append_closed])) (by simp) (by simp <;> rfl) (by kernel_rfl) ?_
  simp
  refine AOps.callIs hP hn rfl [] 200 (rright_run (normW 64 (ofL op k)) (by omega) o1 64 _ (by simp [hw, hw.append_closed])) (by simp) (by simp <;> rfl) (by kernel_rfl) ?_
  rw [r1]
  simp
  refine AOps.callIs hP hn rfl [] 200 (rright_run (normW 32 (ofL op k)) (by omega) o2 32 _ (by simp [hw, hw.append_closed])) (by simp) (by simp <;> rfl) (by kernel_rfl) ?_
  rw [r2]
  simp
  refine AOps.callIs hP hn rfl [] 200 (of_run op k hk 0 _ (by simp [hw, hw.append_closed])) (by simp) (by simp <;> rfl) (by kernel_rfl) ?_
  rw [e0]
  simp
  refine AGo.freeze L.length (by simp; rfl) ?_
  refine AGo.keep [0, 1, 7, 8, 43, 44, 45] ?_
  simp [frzL]
  obtain ⟨E, hE⟩ : ∃ E : List Int, E = [n, k, (k - 1) % 18446744073709551616, (k + 1) % 18446744073709551616, 0, 4294967295, 18446744073709551615] := ⟨_, rfl⟩
  have hE2 : [AV.int .u64 n, .int .u64 k, .int .u64 ((k - 1) % 18446744073709551616), .int .u64 ((k + 1) % 18446744073709551616), .int .u64 0, .int .u64 4294967295, .int .u64 18446744073709551615] = u64L E := by rw [hE]; rfl
  rw [hE2]
  have hEl : E.length = 7 := by rw [hE]; rfl
  have hEo : ∀ x ∈ E, 0 ≤ x ∧ x < 18446744073709551616 := fun x hx => by
    rw [hE] at hx
    simp only [List.mem_cons, List.not_mem_nil, or_false] at hx
    rcases hx with rfl | rfl | rfl | rfl | rfl | rfl | rfl <;> omega
  clear hE hE2
  refine AGo.trimTo (M := []) (N := [_]) hL hw (by simp [AV.idsL, AV.ids]) (by simp [AV.ids]) ?_
  refine AGo.loopE (α := Nat) (fun i => i ≤ E.length) (fun i => i = E.length) (fun i => E.length - i) [0, 1, 7, 8, 43, 44, 45]
    (fun i => [.int .i64 op, .int .u64 k, .slice (spL (normW 64 (ofL op k))), .slice (spL (normW 32 (ofL op k))), .slice (u64L E), .int .i64 7, .int .i64 i])
    (fun i => L) 0 (by kernel_rfl) (by kernel_rfl) (by kernel_rfl) (by simp) (by simp) (by simp) ?_ ?_
  rotate_left
  · rintro i rfl
    refine AGo.go hP hn rfl [] kp12 200 (by kernel_rfl) ?_
    simp
    exact AGo.ret_is hP Try.func12 hL hw (by simp [Try.f12] <;> rfl) rfl rfl rfl
  intro i y z hR hi ih hex
  refine AGo.go hP hn rfl [100000] kp12 200 (hR.ok _) ?_
  by_cases hlt : i < E.length
  · have hlt2 : (i : Int) < 7 := by omega
    have hg := u64L_get hlt
    have hx : 0 ≤ E.getD i 0 ∧ E.getD i 0 < 18446744073709551616 := hEo _ (by simp [List.getD, hlt])
    generalize E.getD i 0 = x at *
    have w1 : IntKind.i64.wrap ((i : Int) + 1) = ((i + 1 : Nat) : Int) := by rw [wrap_id (by omega) (by omega)]; simp
    have c0 : ∀ L, WFL L → ACall Try.prog 45 [.int .i64 op, .int .u64 k, .int .u64 x] L (Is (.bool (ofB op k x)) L) := fun L hw => rof_run op k x L hw
    have c1 : ∀ L, WFL L → ACall Try.prog 38 [.slice (spL (normW 64 (ofL op k))), .int .u64 x] L (Is (.bool (ofB op k x)) L) := fun L hw => by rw [← has_wide hx]; exact rhas_run _ (by omega) x L hw
    have c2 : ∀ L, WFL L → ACall Try.prog 38 [.slice (spL (normW 32 (ofL op k))), .int .u64 x] L (Is (.bool (ofB op k x && decide (x < 4294967296))) L) := fun L hw => by rw [← has_small hx]; exact rhas_run _ (by omega) x L hw
    generalize ofB op k x = p at *
    generalize normW 64 (ofL op k) = A1 at *
    generalize normW 32 (ofL op k) = A2 at *
    simp [-wrap_i64, hlt2, hg]
    refine AOps.callIs hP hn rfl [100000] 200 (c0 _ (by simp [hw, hw.append_closed])) (by simp) (by simp <;> rfl) (todoOk_mono _ _ (by simp only [todoOk, hR.y, hR.z, hR.k, Bool.and_self, Bool.and_true] <;> kernel_rfl)) ?_
    simp [-wrap_i64]
    refine AOps.callIs hP hn rfl [100000] 200 (c1 _ (by simp [hw, hw.append_closed])) (by simp) (by simp <;> rfl) (todoOk_mono _ _ (by simp only [todoOk, hR.y, hR.z, hR.k, Bool.and_self, Bool.and_true] <;> kernel_rfl)) ?_
    by_cases hs : x < 4294967296 <;> cases p
    all_goals
      simp [-wrap_i64]
      refine AOps.callIs hP hn rfl [100000] 200 (c2 _ (by simp [hw, hw.append_closed])) (by simp) (by simp <;> rfl) (todoOk_mono _ _ (by simp only [todoOk, hR.y, hR.z, hR.k, Bool.and_self, Bool.and_true] <;> kernel_rfl)) ?_
      simp [-wrap_i64, w1, hs]
      exact AGo.again (ih (i + 1) (by omega) (by omega)) (by simp) (by simp)
  · have hil : i = E.length := by omega
    subst hil
    simp [hEl]
    exact AGo.again (hex _ rfl) (by simp [hEl]) (by simp)

end Go.Proofs.Ytpneikbihcoaaaa.Vm


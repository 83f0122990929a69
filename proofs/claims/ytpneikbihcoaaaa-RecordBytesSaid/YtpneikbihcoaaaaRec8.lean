/- A word that is loaded is the four bytes at its place. -/
import Derived.Test.YtpneikbihcoaaaaRec7
open Go Go.Proofs Go.Proofs.Ytpneikbihcoaaaa
namespace Go.Proofs.Ytpneikbihcoaaaa.Vm
set_option linter.unusedVariables false
set_option linter.unusedSimpArgs false

set_option maxRecDepth 4000 in
theorem bytes_law (r : Nat → Int) (hr : OkR r) (n : Int) (h0 : 0 ≤ n ∧ n < 4294967296) (L : List AObj) (hw : WFL L) : ACall Try.prog 7 [RA r, .int .u32 n] L (Is (.bool true) L) := by
  refine ACall.walk (by kernel_rfl) Try.func7 rfl rfl rfl rfl [] (by kernel_rfl) kp7 100 fun c hP hn hL => ?_
  simp [Try.f7, RA]
  refine AOps.callIs hP hn rfl [] 100 (print_run r hr _ (by simp [hw, hw.append_closed])) (by simp [RA]) (by simp <;> rfl) (by kernel_rfl) ?_
  simp [RA]
  refine AOps.callIs hP hn rfl [] 100 (load_run r n h0.1 _ (by simp [hw, hw.append_closed])) (by simp [RA]) (by simp <;> rfl) (by kernel_rfl) ?_
  simp
  refine AOps.callIs hP hn rfl [] 100 (awake_run _ (by simp [hw, hw.append_closed])) (by simp [RA]) (by simp <;> rfl) (by kernel_rfl) ?_
  by_cases h1 : 64 ≤ n
  · simp [size_rb, h1, load, loadOk, show ¬ n < 64 by omega]
    exact AGo.ret_isM hP Try.func7 hL hw (by simp [Try.f7] <;> rfl) rfl rfl rfl
  · by_cases h2 : n % 4 = 0
    · obtain ⟨j, hj⟩ : ∃ j : Nat, n = 4 * j := ⟨(n / 4).toNat, by omega⟩
      have hj2 : j < 16 := by omega
      have h3 : n.tmod 4 = 0 := by rw [Int.tmod_eq_emod_of_nonneg h0.1]; exact h2
      have h := hr j
      have hb0 := byt_get (s := bytesOf (rb r 16)) (j := 4 * j + 0) (by rw [size_rb]; omega)
      have hb1 := byt_get (s := bytesOf (rb r 16)) (j := 4 * j + 1) (by rw [size_rb]; omega)
      have hb2 := byt_get (s := bytesOf (rb r 16)) (j := 4 * j + 2) (by rw [size_rb]; omega)
      have hb3 := byt_get (s := bytesOf (rb r 16)) (j := 4 * j + 3) (by rw [size_rb]; omega)
      have e0 := byt_rb r j 0 hj2 (by omega) _ rfl ⟨by omega, by omega⟩
      have e1 := byt_rb r j 1 hj2 (by omega) _ rfl ⟨by omega, by omega⟩
      have e2 := byt_rb r j 2 hj2 (by omega) _ rfl ⟨by omega, by omega⟩
      have e3 := byt_rb r j 3 hj2 (by omega) _ rfl ⟨by omega, by omega⟩
      have hl : load r n = r j := by simp only [load]; rw [if_pos ⟨by omega, h2⟩, show (n / 4).toNat = j by omega]
      have hlo : loadOk n = true := by simp [loadOk, h2]; omega
      have w0 : IntKind.i64.wrap n = n := wrap_id (by omega) (by omega)
      have w1 : IntKind.i64.wrap (n + 1) = n + 1 := wrap_id (by omega) (by omega)
      have w2 : IntKind.i64.wrap (n + 2) = n + 2 := wrap_id (by omega) (by omega)
      have w3 : IntKind.i64.wrap (n + 3) = n + 3 := wrap_id (by omega) (by omega)
      have t0 : n.toNat = 4 * j + 0 := by omega
      have t1 : (n + 1).toNat = 4 * j + 1 := by omega
      have t2 : (n + 2).toNat = 4 * j + 2 := by omega
      have t3 : (n + 3).toNat = 4 * j + 3 := by omega
      simp only [Nat.add_zero] at hb0 e0 t0
      simp [-wrap_i64, size_rb, h1, h3, hl, hlo, w0, w1, w2, w3, h0.1, show 0 ≤ n + 1 by omega, show 0 ≤ n + 2 by omega, show 0 ≤ n + 3 by omega, t0, t1, t2, t3, hb0, hb1, hb2, hb3, e0, e1, e2, e3]
      exact AGo.ret_isM hP Try.func7 hL hw (by simp [Try.f7] <;> rfl) rfl rfl (by simp; omega)
    · have h3 : n.tmod 4 ≠ 0 := by rw [Int.tmod_eq_emod_of_nonneg h0.1]; exact h2
      simp [size_rb, h1, h3, load, loadOk, h2]
      exact AGo.ret_isM hP Try.func7 hL hw (by simp [Try.f7] <;> rfl) rfl rfl rfl

end Go.Proofs.Ytpneikbihcoaaaa.Vm

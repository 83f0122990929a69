/- The places and widths of a record's fields, and the numbers they are made of: what the functions give. -/
import Derived.Test.YtpneikbihcoaaaaKeep
import Derived.Test.YtpneikbihcoaaaaVm24
open Go Go.Proofs Go.Proofs.Ytpneikbihcoaaaa
namespace Go.Proofs.Ytpneikbihcoaaaa.Vm
set_option linter.unusedVariables false
set_option linter.unusedSimpArgs false

theorem or_law (x y : Nat) (hx : x < 4294967296) : 4294967296 * y ||| x = 4294967296 * y + x :=
  (Nat.two_pow_add_eq_or_of_lt (i := 32) hx y).symm

theorem join_law (a b : Int) (ha : 0 ≤ a ∧ a < 4294967296) (hb : 0 ≤ b ∧ b < 4294967296) :
    ((((b % 18446744073709551616 * 4294967296 % 18446744073709551616) % 18446744073709551616).toNat ||| (a % 18446744073709551616 % 18446744073709551616).toNat : Nat) : Int) % 18446744073709551616 = a + 4294967296 * b := by
  have e1 : (b % 18446744073709551616 * 4294967296 % 18446744073709551616 % 18446744073709551616).toNat = 4294967296 * b.toNat := by omega
  have e2 : (a % 18446744073709551616 % 18446744073709551616).toNat = a.toNat := by omega
  rw [e1, e2, or_law _ _ (by omega)]
  omega

def place (n : Int) : Int := if n < 0 ∨ 9 ≤ n then -1 else if n < 2 then n else 2 * n - 2
def width (n : Int) : Int := if n < 0 ∨ 9 ≤ n then 0 else if n < 2 then 32 else 64

theorem place_run (n : Int) (L : List AObj) (hw : WFL L) : ACall Try.prog 22 [.int .i64 n] L (Is (.int .i64 (place n)) L) := by
  refine ACall.walk (by kernel_rfl) Try.func22 rfl rfl rfl rfl [] (by kernel_rfl) kp22 100 fun c hP hn hL => ?_
  by_cases h0 : n < 0
  · simp [Try.f22, h0]
    exact AGo.ret_is hP Try.func22 hL hw (by simp [Try.f22]; rfl) rfl rfl (by simp [place, h0])
  · by_cases h1 : 9 ≤ n
    · simp [Try.f22, h0, h1]
      exact AGo.ret_is hP Try.func22 hL hw (by simp [Try.f22]; rfl) rfl rfl (by simp [place, h1])
    · by_cases h2 : n < 2
      · simp [Try.f22, h0, h1, h2]
        exact AGo.ret_is hP Try.func22 hL hw (by simp [Try.f22]; rfl) rfl rfl (by simp [place, h0, h1, h2])
      · simp [Try.f22, h0, h1, h2]
        exact AGo.ret_is hP Try.func22 hL hw (by simp [Try.f22]; rfl) rfl rfl (by
          simp only [place, h0, h1, h2, or_self, if_false, AV.int.injEq, true_and]
          omega)

theorem refPlace_run (n : Int) (L : List AObj) (hw : WFL L) : ACall Try.prog 23 [.int .i64 n] L (Is (.int .i64 (place n)) L) := by
  refine ACall.walk (by kernel_rfl) Try.func23 rfl rfl rfl rfl [] (by kernel_rfl) kp23 100 fun c hP hn hL => ?_
  by_cases h0 : n < 0
  · simp [Try.f23, h0]
    exact AGo.ret_is hP Try.func23 hL hw (by simp [Try.f23]; rfl) rfl rfl (by simp [place, h0])
  · by_cases h1 : 8 < n
    · simp [Try.f23, h0, h1]
      exact AGo.ret_is hP Try.func23 hL hw (by simp [Try.f23]; rfl) rfl rfl (by simp [place]; omega)
    · by_cases h2 : n < 2
      · simp [Try.f23, h0, h1, h2]
        exact AGo.ret_is hP Try.func23 hL hw (by simp [Try.f23]; rfl) rfl rfl (by simp [place]; omega)
      · simp [Try.f23, h0, h1, h2]
        exact AGo.ret_is hP Try.func23 hL hw (by simp [Try.f23]; rfl) rfl rfl (by
          simp only [place, AV.int.injEq, true_and]
          rw [if_neg (by omega), if_neg (by omega)]
          omega)

theorem width_run (n : Int) (L : List AObj) (hw : WFL L) : ACall Try.prog 24 [.int .i64 n] L (Is (.int .i64 (width n)) L) := by
  refine ACall.walk (by kernel_rfl) Try.func24 rfl rfl rfl rfl [] (by kernel_rfl) kp24 100 fun c hP hn hL => ?_
  by_cases h0 : n < 0
  · simp [Try.f24, h0]
    exact AGo.ret_is hP Try.func24 hL hw (by simp [Try.f24]; rfl) rfl rfl (by simp [width, h0])
  · by_cases h1 : 9 ≤ n
    · simp [Try.f24, h0, h1]
      exact AGo.ret_is hP Try.func24 hL hw (by simp [Try.f24]; rfl) rfl rfl (by simp [width, h1])
    · by_cases h2 : n < 2
      · simp [Try.f24, h0, h1, h2]
        exact AGo.ret_is hP Try.func24 hL hw (by simp [Try.f24]; rfl) rfl rfl (by simp [width, h0, h1, h2])
      · simp [Try.f24, h0, h1, h2]
        exact AGo.ret_is hP Try.func24 hL hw (by simp [Try.f24]; rfl) rfl rfl (by simp [width, h0, h1, h2])

theorem refWidth_run (n : Int) (L : List AObj) (hw : WFL L) : ACall Try.prog 25 [.int .i64 n] L (Is (.int .i64 (width n)) L) := by
  refine ACall.walk (by kernel_rfl) Try.func25 rfl rfl rfl rfl [] (by kernel_rfl) kp25 100 fun c hP hn hL => ?_
  by_cases h0 : n < 0
  · simp [Try.f25, h0]
    exact AGo.ret_is hP Try.func25 hL hw (by simp [Try.f25]; rfl) rfl rfl (by simp [width, h0])
  · by_cases h1 : 8 < n
    · simp [Try.f25, h0, h1]
      exact AGo.ret_is hP Try.func25 hL hw (by simp [Try.f25]; rfl) rfl rfl (by simp [width]; omega)
    · by_cases h2 : n < 2
      · simp [Try.f25, h0, h1, h2]
        exact AGo.ret_is hP Try.func25 hL hw (by simp [Try.f25]; rfl) rfl rfl (by simp [width]; omega)
      · simp [Try.f25, h0, h1, h2]
        exact AGo.ret_is hP Try.func25 hL hw (by simp [Try.f25]; rfl) rfl rfl (by
          simp only [width, AV.int.injEq, true_and]
          rw [if_neg (by omega), if_neg (by omega)])

theorem join_run (a b : Int) (ha : 0 ≤ a ∧ a < 4294967296) (hb : 0 ≤ b ∧ b < 4294967296) (L : List AObj) (hw : WFL L) :
    ACall Try.prog 50 [.int .u32 a, .int .u32 b] L (Is (.int .u64 (a + 4294967296 * b)) L) := by
  refine ACall.walk (by kernel_rfl) Try.func50 rfl rfl rfl rfl [] (by kernel_rfl) kp50 100 fun c hP hn hL => ?_
  have hj := join_law a b ha hb
  simp [Try.f50]
  exact AGo.ret_is hP Try.func50 hL hw (by simp [Try.f50]; rfl) rfl rfl (by
    simp only [AV.int.injEq, true_and]
    have e0 : (2 : Int) ^ min 32 IntKind.u64.bits = 4294967296 := by decide
    have e1 : (2 : Int) ^ IntKind.u64.bits = 18446744073709551616 := by decide
    simp only [e0, e1]
    exact hj)

theorem hi_run (v : Int) (hv : 0 ≤ v ∧ v < 18446744073709551616) (L : List AObj) (hw : WFL L) : ACall Try.prog 51 [.int .u64 v] L (Is (.int .u32 (v / 4294967296)) L) := by
  refine ACall.walk (by kernel_rfl) Try.func51 rfl rfl rfl rfl [] (by kernel_rfl) kp51 100 fun c hP hn hL => ?_
  simp [Try.f51]
  exact AGo.ret_is hP Try.func51 hL hw (by simp [Try.f51]; rfl) rfl rfl (by
    simp only [AV.int.injEq, true_and]
    rw [show min 32 IntKind.u64.bits = 32 from rfl, Int.fdiv_eq_ediv_of_nonneg _ (by decide)]
    omega)

theorem lo_run (v : Int) (L : List AObj) (hw : WFL L) : ACall Try.prog 52 [.int .u64 v] L (Is (.int .u32 (v % 4294967296)) L) := by
  refine ACall.walk (by kernel_rfl) Try.func52 rfl rfl rfl rfl [] (by kernel_rfl) kp52 100 fun c hP hn hL => ?_
  simp [Try.f52]
  exact AGo.ret_is hP Try.func52 hL hw (by simp [Try.f52]; try rfl) rfl rfl rfl

def ofField (at_ : Int) : Int := if at_ < 0 ∨ 16 ≤ at_ then -1 else if at_ < 2 then at_ else 2 + (at_ - 2) / 2
def ofHigh (at_ : Int) : Bool := if at_ < 2 ∨ 16 ≤ at_ then false else (at_ - 2) % 2 == 1

theorem of_run (n : Int) (L : List AObj) (hw : WFL L) : ACall Try.prog 21 [.int .i64 n] L (Is (.tup [.int .i64 (ofField n), .bool (ofHigh n)]) L) := by
  refine ACall.walk (by kernel_rfl) Try.func21 rfl rfl rfl rfl [] (by kernel_rfl) kp21 100 fun c hP hn hL => ?_
  by_cases h0 : n < 0
  · simp [Try.f21, h0]
    exact AGo.ret_is hP Try.func21 hL hw (by simp [Try.f21]; rfl) rfl rfl (by simp [ofField, ofHigh, h0]; omega)
  · by_cases h1 : 16 ≤ n
    · simp [Try.f21, h0, h1]
      exact AGo.ret_is hP Try.func21 hL hw (by simp [Try.f21]; rfl) rfl rfl (by simp [ofField, ofHigh, h1])
    · by_cases h2 : n < 2
      · simp [Try.f21, h0, h1, h2]
        exact AGo.ret_is hP Try.func21 hL hw (by simp [Try.f21]; rfl) rfl rfl (by simp [ofField, ofHigh, h0, h1, h2])
      · have hr : n = 2 ∨ n = 3 ∨ n = 4 ∨ n = 5 ∨ n = 6 ∨ n = 7 ∨ n = 8 ∨ n = 9 ∨ n = 10 ∨ n = 11 ∨ n = 12 ∨ n = 13 ∨ n = 14 ∨ n = 15 := by omega
        simp [Try.f21, h0, h1, h2]
        exact AGo.ret_is hP Try.func21 hL hw (by simp [Try.f21]; rfl) rfl rfl (by
          rcases hr with rfl | rfl | rfl | rfl | rfl | rfl | rfl | rfl | rfl | rfl | rfl | rfl | rfl | rfl <;> rfl)

end Go.Proofs.Ytpneikbihcoaaaa.Vm

/- A record as bytes: what the two functions write. -/
import Derived.Test.YtpneikbihcoaaaaRec2
open Go Go.Proofs Go.Proofs.Ytpneikbihcoaaaa
namespace Go.Proofs.Ytpneikbihcoaaaa.Vm
set_option linter.unusedVariables false
set_option linter.unusedSimpArgs false

@[simp] theorem bits_u8 : IntKind.u8.bits = 8 := rfl
@[simp] theorem bits_u32 : IntKind.u32.bits = 32 := rfl
@[simp] theorem bits_u64 : IntKind.u64.bits = 64 := rfl
@[simp] theorem bits_i64 : IntKind.i64.bits = 64 := rfl

/-- A word's bytes, the lowest one first. -/
def wb (n : Int) : List Int := [n % 256, n / 256 % 256, n / 65536 % 256, n / 16777216 % 256]
/-- The bytes of the first words. -/
def rb (r : Nat → Int) : Nat → List Int
  | 0 => []
  | i + 1 => rb r i ++ wb (r i)
@[simp] theorem rb_len (r : Nat → Int) : ∀ i, (rb r i).length = 4 * i
  | 0 => rfl
  | i + 1 => by simp [rb, rb_len r i, wb]; omega

def bytesOf (l : List Int) : ByteArray := ⟨(l.map fun n => UInt8.ofNat n.toNat).toArray⟩
def u8s (l : List Int) : List AV := l.map (.int .u8)
@[simp] theorem u8s_len (l : List Int) : (u8s l).length = l.length := by simp [u8s]
@[simp] theorem u8s_append (l m : List Int) : u8s (l ++ m) = u8s l ++ u8s m := by simp [u8s]
@[simp] theorem u8s_ids (l : List Int) (p : Nat → Bool) : AV.idsL p (u8s l) = true := by
  induction l with
  | nil => rfl
  | cons x l ih => simpa [u8s, AV.idsL, AV.ids] using ih
@[simp] theorem u8s_closed (l : List Int) : AV.closedL (u8s l) = true := by
  induction l with
  | nil => rfl
  | cons x l ih => simpa [u8s, AV.closedL, AV.closed] using ih
theorem u8s_take (l m : List Int) (n : Nat) (h : n = l.length) : (u8s l).take n = u8s l := by rw [List.take_of_length_le]; simp [h]
@[simp] theorem bytesStr_u8s (l : List Int) : bytesStr (u8s l) = some (l.map fun n => UInt8.ofNat n.toNat) := by
  induction l with
  | nil => rfl
  | cons x l ih => simp [u8s] at ih; simp [u8s, bytesStr, ih]

theorem print_run (r : Nat → Int) (hr : OkR r) (L : List AObj) (hw : WFL L) : ACall Try.prog 30 [RA r] L (Is (.str (bytesOf (rb r 16))) L) := by
  refine ACall.walk (by kernel_rfl) Try.func30 rfl rfl rfl rfl [] (by kernel_rfl) kp30 100 fun c hP hn hL => ?_
  simp [Try.f30, RA]
  refine AGo.loopN [3, 7, 8] (fun i => [.own (L.length + 1) i 0 (4 * i), .agg (RL r), .int .i64 i]) (fun i => L ++ [⟨0, 16, false, false, [.agg (RL r)]⟩, ⟨i, 1, false, false, u8s (rb r i)⟩]) 16 (by simp) (by simp [rb, u8s])
    (fun i hi ih => ?_) ?_
  · refine AGo.go hP hn rfl [] kp30 100 (by kernel_rfl) ?_
    have hi' : (i : Int) < 16 := by omega
    have h1 : 4 * i ≤ 35184372088828 := by omega
    have h2 : 4 * i + 4 < 35184372088832 := by omega
    have e : List.take (4 * i) (u8s (rb r i)) = u8s (rb r i) := u8s_take _ [] _ (by simp)
    simp [hi', RL_get r i hi, Int.fdiv_eq_ediv_of_nonneg, h1, h2, e]
    refine AGo.trimTo (M := [_, _]) (N := [_]) hL hw (by simp [AV.idsL, AV.ids]) (by simp [AV.ids]) ?_
    exact AGo.again ih (by simp; omega) (by simp [rb, wb, u8s])
  · refine AGo.go hP hn rfl [] kp30 100 (by kernel_rfl) ?_
    have e : List.take 64 (u8s (rb r 16)) = u8s (rb r 16) := u8s_take _ [] _ (by simp)
    simp [e]
    exact AGo.ret_isM hP Try.func30 hL hw (by simp [Try.f30]; rfl) rfl rfl (by simp [bytesOf])

/-- A row of bytes that a walk has appended, from a slice that was nil. -/
def outO (n : Nat) (l : List Int) : AObj := if n = 0 then ⟨0, 0, true, false, []⟩ else ⟨n, 1, false, false, u8s l⟩

theorem q256 {n : Int} (h : 0 ≤ n ∧ n < 4294967296) : n.tdiv 256 % 4294967296 = n / 256 := by
  rw [Int.tdiv_eq_ediv_of_nonneg h.1]; omega
theorem r256 {n : Int} (h : 0 ≤ n ∧ n < 4294967296) : n.tmod 256 % 256 = n % 256 := by
  rw [Int.tmod_eq_emod_of_nonneg h.1]; omega

theorem refPrint_run (r : Nat → Int) (hr : OkR r) (L : List AObj) (hw : WFL L) : ACall Try.prog 31 [RA r] L (Is (.str (bytesOf (rb r 16))) L) := by
  refine ACall.walk (by kernel_rfl) Try.func31 rfl rfl rfl rfl [] (by kernel_rfl) kp31 100 fun c hP hn hL => ?_
  simp [Try.f31, RA]
  refine AGo.loopN [1, 3, 4] (fun i => [.addr L.length 0 0 [] 0, .own (L.length + 1) (4 * i) 0 (4 * i), .int .i64 i]) (fun i => L ++ [⟨0, 16, false, false, [.agg (RL r)]⟩, outO (4 * i) (rb r i)]) 16
    (by simp) (by simp [outO]) (fun i hi ih => ?_) ?_
  · refine AGo.go hP hn rfl [] kp31 100 (by kernel_rfl) ?_
    have hi' : (i : Int) < 16 := by omega
    have ht := RL_take r i (by omega)
    have hri := hr i
    simp [hi', RL_get r i hi, ht]
    refine AGo.loopN [1, 3, 4, 5, 6] (fun k => [.addr L.length 0 0 [] 0, .own (L.length + 1) (4 * i + k) 0 (4 * i + k), .int .i64 i, .int .u32 (r i / 256 ^ k), .int .i64 k])
      (fun k => L ++ [⟨0, 16, false, false, [.agg (RL r)]⟩, outO (4 * i + k) (rb r i ++ (wb (r i)).take k)]) 4 (by simp) (by simp) (fun k hk ih2 => ?_) ?_
    · refine AGo.go hP hn rfl [] kp31 100 (by kernel_rfl) ?_
      have hk' : (k : Int) < 4 := by omega
      have hnk : 0 ≤ r i / 256 ^ k ∧ r i / 256 ^ k < 4294967296 := by
        rcases (by omega : k = 0 ∨ k = 1 ∨ k = 2 ∨ k = 3) with rfl | rfl | rfl | rfl <;> simp <;> omega
      have hdiv : r i / 256 ^ k / 256 = r i / 256 ^ (k + 1) := by
        rcases (by omega : k = 0 ∨ k = 1 ∨ k = 2 ∨ k = 3) with rfl | rfl | rfl | rfl <;> simp <;> omega
      have htk : (wb (r i)).take (k + 1) = (wb (r i)).take k ++ [r i / 256 ^ k % 256] := by
        rcases (by omega : k = 0 ∨ k = 1 ∨ k = 2 ∨ k = 3) with rfl | rfl | rfl | rfl <;> simp [wb]
      generalize hn' : r i / 256 ^ k = n at *
      have hlen : (rb r i ++ (wb (r i)).take k).length = 4 * i + k := by simp [wb]; omega
      generalize hlist : rb r i ++ (wb (r i)).take k = l at *
      have h1 : 4 * i + k + 1 ≤ 35184372088832 := by omega
      have h2 : 4 * i + k + 1 < 35184372088832 := by omega
      have e : List.take (4 * i + k) (u8s l) = u8s l := u8s_take _ [] _ hlen.symm
      by_cases h0 : 4 * i + k = 0
      · have hl0 : l = [] := List.eq_nil_of_length_eq_zero (by omega)
        have : i = 0 := by omega
        have : k = 0 := by omega
        subst i k hl0
        simp [outO, q256 hnk, r256 hnk]
        refine AGo.trimTo (M := [_, _]) (N := [_]) hL hw (by simp [AV.idsL, AV.ids]) (by simp [AV.ids]) ?_
        refine AGo.again ih2 (by simp; simpa using hdiv) (by simp [htk, u8s, outO, rb])
      · have eo : outO (4 * i + k) l = ⟨4 * i + k, 1, false, false, u8s l⟩ := if_neg h0
        have eo2 : ∀ l', outO (4 * i + (k + 1)) l' = ⟨4 * i + (k + 1), 1, false, false, u8s l'⟩ := fun l' => if_neg (by omega)
        simp [hk', eo, q256 hnk, r256 hnk, h1, h2, e, hlen]
        refine AGo.trimTo (M := [_, _]) (N := [_]) hL hw (by simp [AV.idsL, AV.ids]) (by simp [AV.ids]) ?_
        refine AGo.again ih2 (by simp [hdiv]; omega) (by simp only [eo2, htk, ← List.append_assoc, hlist]; simp [u8s]; omega)
    · refine AGo.go hP hn rfl [] kp31 100 (by kernel_rfl) ?_
      simp
      refine AGo.again ih (by simp; omega) (by simp [rb, wb, outO]; omega)
  · refine AGo.go hP hn rfl [] kp31 100 (by kernel_rfl) ?_
    have e : List.take 64 (u8s (rb r 16)) = u8s (rb r 16) := u8s_take _ [] _ (by simp)
    simp [outO, e]
    exact AGo.ret_isM hP Try.func31 hL hw (by simp [Try.f31]; rfl) rfl rfl (by simp [bytesOf])

end Go.Proofs.Ytpneikbihcoaaaa.Vm

/- What is told of a record's words and fields: the law, walked. -/
import Derived.Test.YtpneikbihcoaaaaRec12
open Go Go.Proofs Go.Proofs.Ytpneikbihcoaaaa
namespace Go.Proofs.Ytpneikbihcoaaaa.Vm
set_option linter.unusedVariables false
set_option linter.unusedSimpArgs false

theorem field_withR {r : Nat → Int} {f v : Int} (hv : 0 ≤ v ∧ v < 18446744073709551616) (h : withOk f v = true) {k : Int} (h0 : 0 ≤ k) (h1 : k < 9) : field (withR r f v) k = if k = f then v else field r k := by
  obtain ⟨f0, f1, f2⟩ := withOk_iff.1 h
  have pf := place_of f0 f1
  have pk := place_of h0 h1
  by_cases e : k = f
  · subst e
    rw [if_pos rfl]
    rcases field_of (r := withR r k v) h0 h1 with ⟨hc, e⟩ | ⟨hc, e⟩
    · rw [e, withR_of h, if_pos (by omega)]; omega
    · rw [e, withR_of h, withR_of h, if_pos (by omega), if_neg (by omega), if_pos (by omega)]; omega
  · rw [if_neg e]
    rcases field_of (r := withR r f v) h0 h1 with ⟨hc, e1⟩ | ⟨hc, e1⟩ <;> rcases field_of (r := r) h0 h1 with ⟨hd, e2⟩ | ⟨hd, e2⟩
    · rw [e1, e2, withR_of h, if_neg (by omega), if_neg (by omega)]
    · omega
    · omega
    · rw [e1, e2, withR_of h, withR_of h, if_neg (by omega), if_neg (by omega), if_neg (by omega), if_neg (by omega)]

theorem RL_z : RL (fun _ => 0) = [.int .u32 0, .int .u32 0, .int .u32 0, .int .u32 0, .int .u32 0, .int .u32 0, .int .u32 0, .int .u32 0, .int .u32 0, .int .u32 0, .int .u32 0, .int .u32 0, .int .u32 0, .int .u32 0, .int .u32 0, .int .u32 0] := rfl

theorem at_cases {n : Int} (h : 0 ≤ n ∧ n < 4294967296) (r : Nat → Int) : (n < 64 ∧ n.tmod 4 = 0 ∧ ∃ j : Nat, j < 16 ∧ IntKind.u32.wrap (n.tdiv 4) = j ∧ load r n = r j ∧ loadOk n = true) ∨
    (¬ n < 64 ∧ load r n = 0 ∧ loadOk n = false) ∨ (n < 64 ∧ ¬ n.tmod 4 = 0 ∧ load r n = 0 ∧ loadOk n = false) := by
  by_cases h1 : n < 64
  · have e : n.tmod 4 = n % 4 := Int.tmod_eq_emod_of_nonneg h.1
    by_cases h2 : n % 4 = 0
    · left
      refine ⟨h1, by omega, (n / 4).toNat, by omega, ?_, ?_, ?_⟩
      · rw [Int.tdiv_eq_ediv_of_nonneg h.1, wrap_id32 (by omega) (by omega)]; omega
      · simp only [load]; rw [if_pos ⟨h1, h2⟩]
      · simp [loadOk, h1, h2]
    · right; right
      exact ⟨h1, by omega, by simp [load, h2], by simp [loadOk, h2]⟩
  · right; left
    exact ⟨h1, by simp [load, h1], by simp [loadOk, h1]⟩

set_option maxRecDepth 4000 in
set_option maxHeartbeats 1000000 in
theorem tells_1 (r : Nat → Int) (hr : OkR r) (f v n : Int) (hv : 0 ≤ v ∧ v < 18446744073709551616) (hn0 : 0 ≤ n ∧ n < 4294967296) (h1 : f < 0) (L : List AObj) (hw : WFL L) :
    ACall Try.prog 3 [RA r, .int .i64 f, .int .u64 v, .int .u32 n] L (Is (.bool true) L) := by
  refine ACall.walk (by kernel_rfl) Try.func3 rfl rfl rfl rfl [] (by kernel_rfl) kp3 100 fun c hP hn hL => ?_
  have hi : isField f = false := by simp [isField]; omega
  have ho : withOk f v = false := by simp [withOk]; omega
  simp [Try.f3, RA]
  refine AOps.callIs hP hn rfl [] 100 (load_run r n hn0.1 _ (by simp [hw, hw.append_closed])) (by simp [RA]) (by simp <;> rfl) (by kernel_rfl) ?_
  rcases at_cases hn0 r with ⟨a1, a2, j, a3, a4, a5, a6⟩ | ⟨a1, a5, a6⟩ | ⟨a1, a2, a5, a6⟩
  · simp [-wrap_i64, -wrap_u32, a1, a2, a4, a5, a6, RL_get r j a3, RL_take r j (Nat.le_of_lt a3), show (j : Int) < 16 by omega]
    refine AOps.callIs hP hn rfl [] 100 (field_run r hr f _ (by simp [hw, hw.append_closed])) (by simp [RA]) (by simp <;> rfl) (by kernel_rfl) ?_
    simp [-wrap_i64, -wrap_u32]
    refine AOps.callIs hP hn rfl [] 100 (with_run r f v hv _ (by simp [hw, hw.append_closed])) (by simp [RA]) (by simp <;> rfl) (by kernel_rfl) ?_
    simp [-wrap_i64, -wrap_u32, RA, show ¬ 0 ≤ f by omega, h1]
    refine AOps.callIs hP hn rfl [] 100 (awake_run _ (by simp [hw, hw.append_closed])) (by simp [RA]) (by simp <;> rfl) (by kernel_rfl) ?_
    simp [-wrap_i64, -wrap_u32, a1, a2, a4, a5, a6, RL_get r j a3, RL_take r j (Nat.le_of_lt a3), show (j : Int) < 16 by omega, show ¬ 0 ≤ f by omega, h1]
    refine AOps.callIs hP hn rfl [] 100 (refField_run r hr f _ (by simp [hw, hw.append_closed])) (by simp [RA]) (by simp <;> rfl) (by kernel_rfl) ?_
    have hz : eqR (withR r f v) (fun _ => 0) = true := eqR_iff.2 fun j _ => by simp [withR, ho]
    have hz2 := eqAVs_RL (withR r f v) (fun _ => 0)
    simp only [RL_z, hz] at hz2
    simp [-wrap_i64, -wrap_u32, a1, a2, a4, a5, a6, RL_get r j a3, RL_take r j (Nat.le_of_lt a3), show (j : Int) < 16 by omega, show ¬ 0 ≤ f by omega, h1, hi, ho, hz2]
    exact AGo.ret_isM hP Try.func3 hL hw (by simp [Try.f3] <;> rfl) rfl rfl rfl
  · simp [-wrap_i64, -wrap_u32, a1, a5, a6]
    refine AOps.callIs hP hn rfl [] 100 (field_run r hr f _ (by simp [hw, hw.append_closed])) (by simp [RA]) (by simp <;> rfl) (by kernel_rfl) ?_
    simp [-wrap_i64, -wrap_u32]
    refine AOps.callIs hP hn rfl [] 100 (with_run r f v hv _ (by simp [hw, hw.append_closed])) (by simp [RA]) (by simp <;> rfl) (by kernel_rfl) ?_
    simp [-wrap_i64, -wrap_u32, RA, show ¬ 0 ≤ f by omega, h1]
    refine AOps.callIs hP hn rfl [] 100 (awake_run _ (by simp [hw, hw.append_closed])) (by simp [RA]) (by simp <;> rfl) (by kernel_rfl) ?_
    simp [-wrap_i64, -wrap_u32, a1, a5, a6, show ¬ 0 ≤ f by omega, h1]
    refine AOps.callIs hP hn rfl [] 100 (refField_run r hr f _ (by simp [hw, hw.append_closed])) (by simp [RA]) (by simp <;> rfl) (by kernel_rfl) ?_
    have hz : eqR (withR r f v) (fun _ => 0) = true := eqR_iff.2 fun j _ => by simp [withR, ho]
    have hz2 := eqAVs_RL (withR r f v) (fun _ => 0)
    simp only [RL_z, hz] at hz2
    simp [-wrap_i64, -wrap_u32, a1, a5, a6, show ¬ 0 ≤ f by omega, h1, hi, ho, hz2]
    exact AGo.ret_isM hP Try.func3 hL hw (by simp [Try.f3] <;> rfl) rfl rfl rfl
  · simp [-wrap_i64, -wrap_u32, a1, a2, show (n.tmod 4 == 0) = false by simp [a2], a5, a6]
    refine AOps.callIs hP hn rfl [] 100 (field_run r hr f _ (by simp [hw, hw.append_closed])) (by simp [RA]) (by simp <;> rfl) (by kernel_rfl) ?_
    simp [-wrap_i64, -wrap_u32]
    refine AOps.callIs hP hn rfl [] 100 (with_run r f v hv _ (by simp [hw, hw.append_closed])) (by simp [RA]) (by simp <;> rfl) (by kernel_rfl) ?_
    simp [-wrap_i64, -wrap_u32, RA, show ¬ 0 ≤ f by omega, h1]
    refine AOps.callIs hP hn rfl [] 100 (awake_run _ (by simp [hw, hw.append_closed])) (by simp [RA]) (by simp <;> rfl) (by kernel_rfl) ?_
    simp [-wrap_i64, -wrap_u32, a1, a2, show (n.tmod 4 == 0) = false by simp [a2], a5, a6, show ¬ 0 ≤ f by omega, h1]
    refine AOps.callIs hP hn rfl [] 100 (refField_run r hr f _ (by simp [hw, hw.append_closed])) (by simp [RA]) (by simp <;> rfl) (by kernel_rfl) ?_
    have hz : eqR (withR r f v) (fun _ => 0) = true := eqR_iff.2 fun j _ => by simp [withR, ho]
    have hz2 := eqAVs_RL (withR r f v) (fun _ => 0)
    simp only [RL_z, hz] at hz2
    simp [-wrap_i64, -wrap_u32, a1, a2, show (n.tmod 4 == 0) = false by simp [a2], a5, a6, show ¬ 0 ≤ f by omega, h1, hi, ho, hz2]
    exact AGo.ret_isM hP Try.func3 hL hw (by simp [Try.f3] <;> rfl) rfl rfl rfl

set_option maxRecDepth 4000 in
set_option maxHeartbeats 1000000 in
theorem tells_2 (r : Nat → Int) (hr : OkR r) (f v n : Int) (hv : 0 ≤ v ∧ v < 18446744073709551616) (hn0 : 0 ≤ n ∧ n < 4294967296) (h0 : 0 ≤ f) (h1 : 9 ≤ f) (L : List AObj) (hw : WFL L) :
    ACall Try.prog 3 [RA r, .int .i64 f, .int .u64 v, .int .u32 n] L (Is (.bool true) L) := by
  refine ACall.walk (by kernel_rfl) Try.func3 rfl rfl rfl rfl [] (by kernel_rfl) kp3 100 fun c hP hn hL => ?_
  have hi : isField f = false := by simp [isField]; omega
  have ho : withOk f v = false := by simp [withOk]; omega
  simp [Try.f3, RA]
  refine AOps.callIs hP hn rfl [] 100 (load_run r n hn0.1 _ (by simp [hw, hw.append_closed])) (by simp [RA]) (by simp <;> rfl) (by kernel_rfl) ?_
  rcases at_cases hn0 r with ⟨a1, a2, j, a3, a4, a5, a6⟩ | ⟨a1, a5, a6⟩ | ⟨a1, a2, a5, a6⟩
  · simp [-wrap_i64, -wrap_u32, a1, a2, a4, a5, a6, RL_get r j a3, RL_take r j (Nat.le_of_lt a3), show (j : Int) < 16 by omega]
    refine AOps.callIs hP hn rfl [] 100 (field_run r hr f _ (by simp [hw, hw.append_closed])) (by simp [RA]) (by simp <;> rfl) (by kernel_rfl) ?_
    simp [-wrap_i64, -wrap_u32]
    refine AOps.callIs hP hn rfl [] 100 (with_run r f v hv _ (by simp [hw, hw.append_closed])) (by simp [RA]) (by simp <;> rfl) (by kernel_rfl) ?_
    simp [-wrap_i64, -wrap_u32, RA, h0, show ¬ f < 9 by omega, h1]
    refine AOps.callIs hP hn rfl [] 100 (awake_run _ (by simp [hw, hw.append_closed])) (by simp [RA]) (by simp <;> rfl) (by kernel_rfl) ?_
    simp [-wrap_i64, -wrap_u32, a1, a2, a4, a5, a6, RL_get r j a3, RL_take r j (Nat.le_of_lt a3), show (j : Int) < 16 by omega, h0, show ¬ f < 9 by omega, h1]
    refine AOps.callIs hP hn rfl [] 100 (refField_run r hr f _ (by simp [hw, hw.append_closed])) (by simp [RA]) (by simp <;> rfl) (by kernel_rfl) ?_
    have hz : eqR (withR r f v) (fun _ => 0) = true := eqR_iff.2 fun j _ => by simp [withR, ho]
    have hz2 := eqAVs_RL (withR r f v) (fun _ => 0)
    simp only [RL_z, hz] at hz2
    simp [-wrap_i64, -wrap_u32, a1, a2, a4, a5, a6, RL_get r j a3, RL_take r j (Nat.le_of_lt a3), show (j : Int) < 16 by omega, h0, show ¬ f < 9 by omega, h1, hi, ho, hz2]
    exact AGo.ret_isM hP Try.func3 hL hw (by simp [Try.f3] <;> rfl) rfl rfl rfl
  · simp [-wrap_i64, -wrap_u32, a1, a5, a6]
    refine AOps.callIs hP hn rfl [] 100 (field_run r hr f _ (by simp [hw, hw.append_closed])) (by simp [RA]) (by simp <;> rfl) (by kernel_rfl) ?_
    simp [-wrap_i64, -wrap_u32]
    refine AOps.callIs hP hn rfl [] 100 (with_run r f v hv _ (by simp [hw, hw.append_closed])) (by simp [RA]) (by simp <;> rfl) (by kernel_rfl) ?_
    simp [-wrap_i64, -wrap_u32, RA, h0, show ¬ f < 9 by omega, h1]
    refine AOps.callIs hP hn rfl [] 100 (awake_run _ (by simp [hw, hw.append_closed])) (by simp [RA]) (by simp <;> rfl) (by kernel_rfl) ?_
    simp [-wrap_i64, -wrap_u32, a1, a5, a6, h0, show ¬ f < 9 by omega, h1]
    refine AOps.callIs hP hn rfl [] 100 (refField_run r hr f _ (by simp [hw, hw.append_closed])) (by simp [RA]) (by simp <;> rfl) (by kernel_rfl) ?_
    have hz : eqR (withR r f v) (fun _ => 0) = true := eqR_iff.2 fun j _ => by simp [withR, ho]
    have hz2 := eqAVs_RL (withR r f v) (fun _ => 0)
    simp only [RL_z, hz] at hz2
    simp [-wrap_i64, -wrap_u32, a1, a5, a6, h0, show ¬ f < 9 by omega, h1, hi, ho, hz2]
    exact AGo.ret_isM hP Try.func3 hL hw (by simp [Try.f3] <;> rfl) rfl rfl rfl
  · simp [-wrap_i64, -wrap_u32, a1, a2, show (n.tmod 4 == 0) = false by simp [a2], a5, a6]
    refine AOps.callIs hP hn rfl [] 100 (field_run r hr f _ (by simp [hw, hw.append_closed])) (by simp [RA]) (by simp <;> rfl) (by kernel_rfl) ?_
    simp [-wrap_i64, -wrap_u32]
    refine AOps.callIs hP hn rfl [] 100 (with_run r f v hv _ (by simp [hw, hw.append_closed])) (by simp [RA]) (by simp <;> rfl) (by kernel_rfl) ?_
    simp [-wrap_i64, -wrap_u32, RA, h0, show ¬ f < 9 by omega, h1]
    refine AOps.callIs hP hn rfl [] 100 (awake_run _ (by simp [hw, hw.append_closed])) (by simp [RA]) (by simp <;> rfl) (by kernel_rfl) ?_
    simp [-wrap_i64, -wrap_u32, a1, a2, show (n.tmod 4 == 0) = false by simp [a2], a5, a6, h0, show ¬ f < 9 by omega, h1]
    refine AOps.callIs hP hn rfl [] 100 (refField_run r hr f _ (by simp [hw, hw.append_closed])) (by simp [RA]) (by simp <;> rfl) (by kernel_rfl) ?_
    have hz : eqR (withR r f v) (fun _ => 0) = true := eqR_iff.2 fun j _ => by simp [withR, ho]
    have hz2 := eqAVs_RL (withR r f v) (fun _ => 0)
    simp only [RL_z, hz] at hz2
    simp [-wrap_i64, -wrap_u32, a1, a2, show (n.tmod 4 == 0) = false by simp [a2], a5, a6, h0, show ¬ f < 9 by omega, h1, hi, ho, hz2]
    exact AGo.ret_isM hP Try.func3 hL hw (by simp [Try.f3] <;> rfl) rfl rfl rfl

set_option maxRecDepth 4000 in
set_option maxHeartbeats 1000000 in
theorem tells_3 (r : Nat → Int) (hr : OkR r) (f v n : Int) (hv : 0 ≤ v ∧ v < 18446744073709551616) (hn0 : 0 ≤ n ∧ n < 4294967296) (h0 : 1 < f) (h1 : f < 9) (L : List AObj) (hw : WFL L) :
    ACall Try.prog 3 [RA r, .int .i64 f, .int .u64 v, .int .u32 n] L (Is (.bool true) L) := by
  refine ACall.walk (by kernel_rfl) Try.func3 rfl rfl rfl rfl [] (by kernel_rfl) kp3 100 fun c hP hn hL => ?_
  have hi : isField f = true := by simp [isField]; omega
  have ho : withOk f v = true := by simp [withOk]; omega
  simp [Try.f3, RA]
  refine AOps.callIs hP hn rfl [] 100 (load_run r n hn0.1 _ (by simp [hw, hw.append_closed])) (by simp [RA]) (by simp <;> rfl) (by kernel_rfl) ?_
  rcases at_cases hn0 r with ⟨a1, a2, j, a3, a4, a5, a6⟩ | ⟨a1, a5, a6⟩ | ⟨a1, a2, a5, a6⟩
  · simp [-wrap_i64, -wrap_u32, a1, a2, a4, a5, a6, RL_get r j a3, RL_take r j (Nat.le_of_lt a3), show (j : Int) < 16 by omega]
    refine AOps.callIs hP hn rfl [] 100 (field_run r hr f _ (by simp [hw, hw.append_closed])) (by simp [RA]) (by simp <;> rfl) (by kernel_rfl) ?_
    simp [-wrap_i64, -wrap_u32]
    refine AOps.callIs hP hn rfl [] 100 (with_run r f v hv _ (by simp [hw, hw.append_closed])) (by simp [RA]) (by simp <;> rfl) (by kernel_rfl) ?_
    simp [-wrap_i64, -wrap_u32, RA, h0, h1, show 0 ≤ f by omega]
    refine AOps.callIs hP hn rfl [] 100 (awake_run _ (by simp [hw, hw.append_closed])) (by simp [RA]) (by simp <;> rfl) (by kernel_rfl) ?_
    simp [-wrap_i64, -wrap_u32, a1, a2, a4, a5, a6, RL_get r j a3, RL_take r j (Nat.le_of_lt a3), show (j : Int) < 16 by omega, h0, h1, show 0 ≤ f by omega]
    refine AOps.callIs hP hn rfl [] 100 (refField_run r hr f _ (by simp [hw, hw.append_closed])) (by simp [RA]) (by simp <;> rfl) (by kernel_rfl) ?_
    simp [-wrap_i64, -wrap_u32, a1, a2, a4, a5, a6, RL_get r j a3, RL_take r j (Nat.le_of_lt a3), show (j : Int) < 16 by omega, h0, h1, show 0 ≤ f by omega, hi, ho]
    refine AGo.loopN [1, 2, 4, 14, 105] (fun i => [.int .i64 f, .int .u64 v, .addr L.length 0 0 [] 0, .addr (L.length + 1) 0 0 [] 0, .int .i64 i])
      (fun i => L ++ [⟨0, 16, false, false, [.agg (RL r)]⟩, ⟨0, 16, false, false, [.agg (RL (withR r f v))]⟩]) 9 (by simp) rfl (fun i hi2 ih => ?_) ?_
    · refine AGo.go hP hn rfl [] kp3 100 (by kernel_rfl) ?_
      have hi' : (i : Int) < 9 := by omega
      have w1 : IntKind.i64.wrap ((i : Int) + 1) = i + 1 := wrap_id (by omega) (by omega)
      have hfw := field_withR (r := r) hv ho (k := (i : Int)) (by omega) hi'
      simp [-wrap_i64, hi']
      refine AOps.callIs hP hn rfl [] 100 (field_run (withR r f v) (withR_ok hr hv) i _ (by simp [hw, hw.append_closed])) (by simp [RA]) (by simp <;> rfl) (by kernel_rfl) ?_
      simp [-wrap_i64]
      refine AOps.callIs hP hn rfl [] 100 (refField_run r hr i _ (by simp [hw, hw.append_closed])) (by simp [RA]) (by simp <;> rfl) (by kernel_rfl) ?_
      by_cases e : (i : Int) = f
      · rw [if_pos e, e] at hfw
        rw [e] at w1
        simp [-wrap_i64, e, hfw, w1]
        exact AGo.again ih (by simp [e]) rfl
      · rw [if_neg e] at hfw
        simp [-wrap_i64, e, hfw, w1]
        exact AGo.again ih (by simp) rfl
    · refine AGo.go hP hn rfl [] kp3 100 (by kernel_rfl) ?_
      simp
      exact AGo.ret_isM hP Try.func3 hL hw (by simp [Try.f3] <;> rfl) rfl rfl rfl
  · simp [-wrap_i64, -wrap_u32, a1, a5, a6]
    refine AOps.callIs hP hn rfl [] 100 (field_run r hr f _ (by simp [hw, hw.append_closed])) (by simp [RA]) (by simp <;> rfl) (by kernel_rfl) ?_
    simp [-wrap_i64, -wrap_u32]
    refine AOps.callIs hP hn rfl [] 100 (with_run r f v hv _ (by simp [hw, hw.append_closed])) (by simp [RA]) (by simp <;> rfl) (by kernel_rfl) ?_
    simp [-wrap_i64, -wrap_u32, RA, h0, h1, show 0 ≤ f by omega]
    refine AOps.callIs hP hn rfl [] 100 (awake_run _ (by simp [hw, hw.append_closed])) (by simp [RA]) (by simp <;> rfl) (by kernel_rfl) ?_
    simp [-wrap_i64, -wrap_u32, a1, a5, a6, h0, h1, show 0 ≤ f by omega]
    refine AOps.callIs hP hn rfl [] 100 (refField_run r hr f _ (by simp [hw, hw.append_closed])) (by simp [RA]) (by simp <;> rfl) (by kernel_rfl) ?_
    simp [-wrap_i64, -wrap_u32, a1, a5, a6, h0, h1, show 0 ≤ f by omega, hi, ho]
    refine AGo.loopN [1, 2, 4, 14, 105] (fun i => [.int .i64 f, .int .u64 v, .addr L.length 0 0 [] 0, .addr (L.length + 1) 0 0 [] 0, .int .i64 i])
      (fun i => L ++ [⟨0, 16, false, false, [.agg (RL r)]⟩, ⟨0, 16, false, false, [.agg (RL (withR r f v))]⟩]) 9 (by simp) rfl (fun i hi2 ih => ?_) ?_
    · refine AGo.go hP hn rfl [] kp3 100 (by kernel_rfl) ?_
      have hi' : (i : Int) < 9 := by omega
      have w1 : IntKind.i64.wrap ((i : Int) + 1) = i + 1 := wrap_id (by omega) (by omega)
      have hfw := field_withR (r := r) hv ho (k := (i : Int)) (by omega) hi'
      simp [-wrap_i64, hi']
      refine AOps.callIs hP hn rfl [] 100 (field_run (withR r f v) (withR_ok hr hv) i _ (by simp [hw, hw.append_closed])) (by simp [RA]) (by simp <;> rfl) (by kernel_rfl) ?_
      simp [-wrap_i64]
      refine AOps.callIs hP hn rfl [] 100 (refField_run r hr i _ (by simp [hw, hw.append_closed])) (by simp [RA]) (by simp <;> rfl) (by kernel_rfl) ?_
      by_cases e : (i : Int) = f
      · rw [if_pos e, e] at hfw
        rw [e] at w1
        simp [-wrap_i64, e, hfw, w1]
        exact AGo.again ih (by simp [e]) rfl
      · rw [if_neg e] at hfw
        simp [-wrap_i64, e, hfw, w1]
        exact AGo.again ih (by simp) rfl
    · refine AGo.go hP hn rfl [] kp3 100 (by kernel_rfl) ?_
      simp
      exact AGo.ret_isM hP Try.func3 hL hw (by simp [Try.f3] <;> rfl) rfl rfl rfl
  · simp [-wrap_i64, -wrap_u32, a1, a2, show (n.tmod 4 == 0) = false by simp [a2], a5, a6]
    refine AOps.callIs hP hn rfl [] 100 (field_run r hr f _ (by simp [hw, hw.append_closed])) (by simp [RA]) (by simp <;> rfl) (by kernel_rfl) ?_
    simp [-wrap_i64, -wrap_u32]
    refine AOps.callIs hP hn rfl [] 100 (with_run r f v hv _ (by simp [hw, hw.append_closed])) (by simp [RA]) (by simp <;> rfl) (by kernel_rfl) ?_
    simp [-wrap_i64, -wrap_u32, RA, h0, h1, show 0 ≤ f by omega]
    refine AOps.callIs hP hn rfl [] 100 (awake_run _ (by simp [hw, hw.append_closed])) (by simp [RA]) (by simp <;> rfl) (by kernel_rfl) ?_
    simp [-wrap_i64, -wrap_u32, a1, a2, show (n.tmod 4 == 0) = false by simp [a2], a5, a6, h0, h1, show 0 ≤ f by omega]
    refine AOps.callIs hP hn rfl [] 100 (refField_run r hr f _ (by simp [hw, hw.append_closed])) (by simp [RA]) (by simp <;> rfl) (by kernel_rfl) ?_
    simp [-wrap_i64, -wrap_u32, a1, a2, show (n.tmod 4 == 0) = false by simp [a2], a5, a6, h0, h1, show 0 ≤ f by omega, hi, ho]
    refine AGo.loopN [1, 2, 4, 14, 105] (fun i => [.int .i64 f, .int .u64 v, .addr L.length 0 0 [] 0, .addr (L.length + 1) 0 0 [] 0, .int .i64 i])
      (fun i => L ++ [⟨0, 16, false, false, [.agg (RL r)]⟩, ⟨0, 16, false, false, [.agg (RL (withR r f v))]⟩]) 9 (by simp) rfl (fun i hi2 ih => ?_) ?_
    · refine AGo.go hP hn rfl [] kp3 100 (by kernel_rfl) ?_
      have hi' : (i : Int) < 9 := by omega
      have w1 : IntKind.i64.wrap ((i : Int) + 1) = i + 1 := wrap_id (by omega) (by omega)
      have hfw := field_withR (r := r) hv ho (k := (i : Int)) (by omega) hi'
      simp [-wrap_i64, hi']
      refine AOps.callIs hP hn rfl [] 100 (field_run (withR r f v) (withR_ok hr hv) i _ (by simp [hw, hw.append_closed])) (by simp [RA]) (by simp <;> rfl) (by kernel_rfl) ?_
      simp [-wrap_i64]
      refine AOps.callIs hP hn rfl [] 100 (refField_run r hr i _ (by simp [hw, hw.append_closed])) (by simp [RA]) (by simp <;> rfl) (by kernel_rfl) ?_
      by_cases e : (i : Int) = f
      · rw [if_pos e, e] at hfw
        rw [e] at w1
        simp [-wrap_i64, e, hfw, w1]
        exact AGo.again ih (by simp [e]) rfl
      · rw [if_neg e] at hfw
        simp [-wrap_i64, e, hfw, w1]
        exact AGo.again ih (by simp) rfl
    · refine AGo.go hP hn rfl [] kp3 100 (by kernel_rfl) ?_
      simp
      exact AGo.ret_isM hP Try.func3 hL hw (by simp [Try.f3] <;> rfl) rfl rfl rfl

set_option maxRecDepth 4000 in
set_option maxHeartbeats 1000000 in
theorem tells_4 (r : Nat → Int) (hr : OkR r) (f v n : Int) (hv : 0 ≤ v ∧ v < 18446744073709551616) (hn0 : 0 ≤ n ∧ n < 4294967296) (h0 : 0 ≤ f) (h1 : f ≤ 1) (h2 : v < 4294967296) (L : List AObj) (hw : WFL L) :
    ACall Try.prog 3 [RA r, .int .i64 f, .int .u64 v, .int .u32 n] L (Is (.bool true) L) := by
  refine ACall.walk (by kernel_rfl) Try.func3 rfl rfl rfl rfl [] (by kernel_rfl) kp3 100 fun c hP hn hL => ?_
  have hi : isField f = true := by simp [isField]; omega
  have ho : withOk f v = true := by simp [withOk]; omega
  simp [Try.f3, RA]
  refine AOps.callIs hP hn rfl [] 100 (load_run r n hn0.1 _ (by simp [hw, hw.append_closed])) (by simp [RA]) (by simp <;> rfl) (by kernel_rfl) ?_
  rcases at_cases hn0 r with ⟨a1, a2, j, a3, a4, a5, a6⟩ | ⟨a1, a5, a6⟩ | ⟨a1, a2, a5, a6⟩
  · simp [-wrap_i64, -wrap_u32, a1, a2, a4, a5, a6, RL_get r j a3, RL_take r j (Nat.le_of_lt a3), show (j : Int) < 16 by omega]
    refine AOps.callIs hP hn rfl [] 100 (field_run r hr f _ (by simp [hw, hw.append_closed])) (by simp [RA]) (by simp <;> rfl) (by kernel_rfl) ?_
    simp [-wrap_i64, -wrap_u32]
    refine AOps.callIs hP hn rfl [] 100 (with_run r f v hv _ (by simp [hw, hw.append_closed])) (by simp [RA]) (by simp <;> rfl) (by kernel_rfl) ?_
    simp [-wrap_i64, -wrap_u32, RA, h0, show f < 9 by omega, show ¬ 1 < f by omega, h2]
    refine AOps.callIs hP hn rfl [] 100 (awake_run _ (by simp [hw, hw.append_closed])) (by simp [RA]) (by simp <;> rfl) (by kernel_rfl) ?_
    simp [-wrap_i64, -wrap_u32, a1, a2, a4, a5, a6, RL_get r j a3, RL_take r j (Nat.le_of_lt a3), show (j : Int) < 16 by omega, h0, show f < 9 by omega, show ¬ 1 < f by omega, h2]
    refine AOps.callIs hP hn rfl [] 100 (refField_run r hr f _ (by simp [hw, hw.append_closed])) (by simp [RA]) (by simp <;> rfl) (by kernel_rfl) ?_
    simp [-wrap_i64, -wrap_u32, a1, a2, a4, a5, a6, RL_get r j a3, RL_take r j (Nat.le_of_lt a3), show (j : Int) < 16 by omega, h0, show f < 9 by omega, show ¬ 1 < f by omega, h2, hi, ho]
    refine AGo.loopN [1, 2, 4, 14, 105] (fun i => [.int .i64 f, .int .u64 v, .addr L.length 0 0 [] 0, .addr (L.length + 1) 0 0 [] 0, .int .i64 i])
      (fun i => L ++ [⟨0, 16, false, false, [.agg (RL r)]⟩, ⟨0, 16, false, false, [.agg (RL (withR r f v))]⟩]) 9 (by simp) rfl (fun i hi2 ih => ?_) ?_
    · refine AGo.go hP hn rfl [] kp3 100 (by kernel_rfl) ?_
      have hi' : (i : Int) < 9 := by omega
      have w1 : IntKind.i64.wrap ((i : Int) + 1) = i + 1 := wrap_id (by omega) (by omega)
      have hfw := field_withR (r := r) hv ho (k := (i : Int)) (by omega) hi'
      simp [-wrap_i64, hi']
      refine AOps.callIs hP hn rfl [] 100 (field_run (withR r f v) (withR_ok hr hv) i _ (by simp [hw, hw.append_closed])) (by simp [RA]) (by simp <;> rfl) (by kernel_rfl) ?_
      simp [-wrap_i64]
      refine AOps.callIs hP hn rfl [] 100 (refField_run r hr i _ (by simp [hw, hw.append_closed])) (by simp [RA]) (by simp <;> rfl) (by kernel_rfl) ?_
      by_cases e : (i : Int) = f
      · rw [if_pos e, e] at hfw
        rw [e] at w1
        simp [-wrap_i64, e, hfw, w1]
        exact AGo.again ih (by simp [e]) rfl
      · rw [if_neg e] at hfw
        simp [-wrap_i64, e, hfw, w1]
        exact AGo.again ih (by simp) rfl
    · refine AGo.go hP hn rfl [] kp3 100 (by kernel_rfl) ?_
      simp
      exact AGo.ret_isM hP Try.func3 hL hw (by simp [Try.f3] <;> rfl) rfl rfl rfl
  · simp [-wrap_i64, -wrap_u32, a1, a5, a6]
    refine AOps.callIs hP hn rfl [] 100 (field_run r hr f _ (by simp [hw, hw.append_closed])) (by simp [RA]) (by simp <;> rfl) (by kernel_rfl) ?_
    simp [-wrap_i64, -wrap_u32]
    refine AOps.callIs hP hn rfl [] 100 (with_run r f v hv _ (by simp [hw, hw.append_closed])) (by simp [RA]) (by simp <;> rfl) (by kernel_rfl) ?_
    simp [-wrap_i64, -wrap_u32, RA, h0, show f < 9 by omega, show ¬ 1 < f by omega, h2]
    refine AOps.callIs hP hn rfl [] 100 (awake_run _ (by simp [hw, hw.append_closed])) (by simp [RA]) (by simp <;> rfl) (by kernel_rfl) ?_
    simp [-wrap_i64, -wrap_u32, a1, a5, a6, h0, show f < 9 by omega, show ¬ 1 < f by omega, h2]
    refine AOps.callIs hP hn rfl [] 100 (refField_run r hr f _ (by simp [hw, hw.append_closed])) (by simp [RA]) (by simp <;> rfl) (by kernel_rfl) ?_
    simp [-wrap_i64, -wrap_u32, a1, a5, a6, h0, show f < 9 by omega, show ¬ 1 < f by omega, h2, hi, ho]
    refine AGo.loopN [1, 2, 4, 14, 105] (fun i => [.int .i64 f, .int .u64 v, .addr L.length 0 0 [] 0, .addr (L.length + 1) 0 0 [] 0, .int .i64 i])
      (fun i => L ++ [⟨0, 16, false, false, [.agg (RL r)]⟩, ⟨0, 16, false, false, [.agg (RL (withR r f v))]⟩]) 9 (by simp) rfl (fun i hi2 ih => ?_) ?_
    · refine AGo.go hP hn rfl [] kp3 100 (by kernel_rfl) ?_
      have hi' : (i : Int) < 9 := by omega
      have w1 : IntKind.i64.wrap ((i : Int) + 1) = i + 1 := wrap_id (by omega) (by omega)
      have hfw := field_withR (r := r) hv ho (k := (i : Int)) (by omega) hi'
      simp [-wrap_i64, hi']
      refine AOps.callIs hP hn rfl [] 100 (field_run (withR r f v) (withR_ok hr hv) i _ (by simp [hw, hw.append_closed])) (by simp [RA]) (by simp <;> rfl) (by kernel_rfl) ?_
      simp [-wrap_i64]
      refine AOps.callIs hP hn rfl [] 100 (refField_run r hr i _ (by simp [hw, hw.append_closed])) (by simp [RA]) (by simp <;> rfl) (by kernel_rfl) ?_
      by_cases e : (i : Int) = f
      · rw [if_pos e, e] at hfw
        rw [e] at w1
        simp [-wrap_i64, e, hfw, w1]
        exact AGo.again ih (by simp [e]) rfl
      · rw [if_neg e] at hfw
        simp [-wrap_i64, e, hfw, w1]
        exact AGo.again ih (by simp) rfl
    · refine AGo.go hP hn rfl [] kp3 100 (by kernel_rfl) ?_
      simp
      exact AGo.ret_isM hP Try.func3 hL hw (by simp [Try.f3] <;> rfl) rfl rfl rfl
  · simp [-wrap_i64, -wrap_u32, a1, a2, show (n.tmod 4 == 0) = false by simp [a2], a5, a6]
    refine AOps.callIs hP hn rfl [] 100 (field_run r hr f _ (by simp [hw, hw.append_closed])) (by simp [RA]) (by simp <;> rfl) (by kernel_rfl) ?_
    simp [-wrap_i64, -wrap_u32]
    refine AOps.callIs hP hn rfl [] 100 (with_run r f v hv _ (by simp [hw, hw.append_closed])) (by simp [RA]) (by simp <;> rfl) (by kernel_rfl) ?_
    simp [-wrap_i64, -wrap_u32, RA, h0, show f < 9 by omega, show ¬ 1 < f by omega, h2]
    refine AOps.callIs hP hn rfl [] 100 (awake_run _ (by simp [hw, hw.append_closed])) (by simp [RA]) (by simp <;> rfl) (by kernel_rfl) ?_
    simp [-wrap_i64, -wrap_u32, a1, a2, show (n.tmod 4 == 0) = false by simp [a2], a5, a6, h0, show f < 9 by omega, show ¬ 1 < f by omega, h2]
    refine AOps.callIs hP hn rfl [] 100 (refField_run r hr f _ (by simp [hw, hw.append_closed])) (by simp [RA]) (by simp <;> rfl) (by kernel_rfl) ?_
    simp [-wrap_i64, -wrap_u32, a1, a2, show (n.tmod 4 == 0) = false by simp [a2], a5, a6, h0, show f < 9 by omega, show ¬ 1 < f by omega, h2, hi, ho]
    refine AGo.loopN [1, 2, 4, 14, 105] (fun i => [.int .i64 f, .int .u64 v, .addr L.length 0 0 [] 0, .addr (L.length + 1) 0 0 [] 0, .int .i64 i])
      (fun i => L ++ [⟨0, 16, false, false, [.agg (RL r)]⟩, ⟨0, 16, false, false, [.agg (RL (withR r f v))]⟩]) 9 (by simp) rfl (fun i hi2 ih => ?_) ?_
    · refine AGo.go hP hn rfl [] kp3 100 (by kernel_rfl) ?_
      have hi' : (i : Int) < 9 := by omega
      have w1 : IntKind.i64.wrap ((i : Int) + 1) = i + 1 := wrap_id (by omega) (by omega)
      have hfw := field_withR (r := r) hv ho (k := (i : Int)) (by omega) hi'
      simp [-wrap_i64, hi']
      refine AOps.callIs hP hn rfl [] 100 (field_run (withR r f v) (withR_ok hr hv) i _ (by simp [hw, hw.append_closed])) (by simp [RA]) (by simp <;> rfl) (by kernel_rfl) ?_
      simp [-wrap_i64]
      refine AOps.callIs hP hn rfl [] 100 (refField_run r hr i _ (by simp [hw, hw.append_closed])) (by simp [RA]) (by simp <;> rfl) (by kernel_rfl) ?_
      by_cases e : (i : Int) = f
      · rw [if_pos e, e] at hfw
        rw [e] at w1
        simp [-wrap_i64, e, hfw, w1]
        exact AGo.again ih (by simp [e]) rfl
      · rw [if_neg e] at hfw
        simp [-wrap_i64, e, hfw, w1]
        exact AGo.again ih (by simp) rfl
    · refine AGo.go hP hn rfl [] kp3 100 (by kernel_rfl) ?_
      simp
      exact AGo.ret_isM hP Try.func3 hL hw (by simp [Try.f3] <;> rfl) rfl rfl rfl

set_option maxRecDepth 4000 in
set_option maxHeartbeats 1000000 in
theorem tells_5 (r : Nat → Int) (hr : OkR r) (f v n : Int) (hv : 0 ≤ v ∧ v < 18446744073709551616) (hn0 : 0 ≤ n ∧ n < 4294967296) (h0 : 0 ≤ f) (h1 : f ≤ 1) (h2 : ¬ v < 4294967296) (L : List AObj) (hw : WFL L) :
    ACall Try.prog 3 [RA r, .int .i64 f, .int .u64 v, .int .u32 n] L (Is (.bool true) L) := by
  refine ACall.walk (by kernel_rfl) Try.func3 rfl rfl rfl rfl [] (by kernel_rfl) kp3 100 fun c hP hn hL => ?_
  have hi : isField f = true := by simp [isField]; omega
  have ho : withOk f v = false := by simp [withOk]; omega
  simp [Try.f3, RA]
  refine AOps.callIs hP hn rfl [] 100 (load_run r n hn0.1 _ (by simp [hw, hw.append_closed])) (by simp [RA]) (by simp <;> rfl) (by kernel_rfl) ?_
  rcases at_cases hn0 r with ⟨a1, a2, j, a3, a4, a5, a6⟩ | ⟨a1, a5, a6⟩ | ⟨a1, a2, a5, a6⟩
  · simp [-wrap_i64, -wrap_u32, a1, a2, a4, a5, a6, RL_get r j a3, RL_take r j (Nat.le_of_lt a3), show (j : Int) < 16 by omega]
    refine AOps.callIs hP hn rfl [] 100 (field_run r hr f _ (by simp [hw, hw.append_closed])) (by simp [RA]) (by simp <;> rfl) (by kernel_rfl) ?_
    simp [-wrap_i64, -wrap_u32]
    refine AOps.callIs hP hn rfl [] 100 (with_run r f v hv _ (by simp [hw, hw.append_closed])) (by simp [RA]) (by simp <;> rfl) (by kernel_rfl) ?_
    simp [-wrap_i64, -wrap_u32, RA, h0, show f < 9 by omega, show ¬ 1 < f by omega, h2]
    refine AOps.callIs hP hn rfl [] 100 (awake_run _ (by simp [hw, hw.append_closed])) (by simp [RA]) (by simp <;> rfl) (by kernel_rfl) ?_
    simp [-wrap_i64, -wrap_u32, a1, a2, a4, a5, a6, RL_get r j a3, RL_take r j (Nat.le_of_lt a3), show (j : Int) < 16 by omega, h0, show f < 9 by omega, show ¬ 1 < f by omega, h2]
    refine AOps.callIs hP hn rfl [] 100 (refField_run r hr f _ (by simp [hw, hw.append_closed])) (by simp [RA]) (by simp <;> rfl) (by kernel_rfl) ?_
    have hz : eqR (withR r f v) (fun _ => 0) = true := eqR_iff.2 fun j _ => by simp [withR, ho]
    have hz2 := eqAVs_RL (withR r f v) (fun _ => 0)
    simp only [RL_z, hz] at hz2
    simp [-wrap_i64, -wrap_u32, a1, a2, a4, a5, a6, RL_get r j a3, RL_take r j (Nat.le_of_lt a3), show (j : Int) < 16 by omega, h0, show f < 9 by omega, show ¬ 1 < f by omega, h2, hi, ho, hz2]
    exact AGo.ret_isM hP Try.func3 hL hw (by simp [Try.f3] <;> rfl) rfl rfl rfl
  · simp [-wrap_i64, -wrap_u32, a1, a5, a6]
    refine AOps.callIs hP hn rfl [] 100 (field_run r hr f _ (by simp [hw, hw.append_closed])) (by simp [RA]) (by simp <;> rfl) (by kernel_rfl) ?_
    simp [-wrap_i64, -wrap_u32]
    refine AOps.callIs hP hn rfl [] 100 (with_run r f v hv _ (by simp [hw, hw.append_closed])) (by simp [RA]) (by simp <;> rfl) (by kernel_rfl) ?_
    simp [-wrap_i64, -wrap_u32, RA, h0, show f < 9 by omega, show ¬ 1 < f by omega, h2]
    refine AOps.callIs hP hn rfl [] 100 (awake_run _ (by simp [hw, hw.append_closed])) (by simp [RA]) (by simp <;> rfl) (by kernel_rfl) ?_
    simp [-wrap_i64, -wrap_u32, a1, a5, a6, h0, show f < 9 by omega, show ¬ 1 < f by omega, h2]
    refine AOps.callIs hP hn rfl [] 100 (refField_run r hr f _ (by simp [hw, hw.append_closed])) (by simp [RA]) (by simp <;> rfl) (by kernel_rfl) ?_
    have hz : eqR (withR r f v) (fun _ => 0) = true := eqR_iff.2 fun j _ => by simp [withR, ho]
    have hz2 := eqAVs_RL (withR r f v) (fun _ => 0)
    simp only [RL_z, hz] at hz2
    simp [-wrap_i64, -wrap_u32, a1, a5, a6, h0, show f < 9 by omega, show ¬ 1 < f by omega, h2, hi, ho, hz2]
    exact AGo.ret_isM hP Try.func3 hL hw (by simp [Try.f3] <;> rfl) rfl rfl rfl
  · simp [-wrap_i64, -wrap_u32, a1, a2, show (n.tmod 4 == 0) = false by simp [a2], a5, a6]
    refine AOps.callIs hP hn rfl [] 100 (field_run r hr f _ (by simp [hw, hw.append_closed])) (by simp [RA]) (by simp <;> rfl) (by kernel_rfl) ?_
    simp [-wrap_i64, -wrap_u32]
    refine AOps.callIs hP hn rfl [] 100 (with_run r f v hv _ (by simp [hw, hw.append_closed])) (by simp [RA]) (by simp <;> rfl) (by kernel_rfl) ?_
    simp [-wrap_i64, -wrap_u32, RA, h0, show f < 9 by omega, show ¬ 1 < f by omega, h2]
    refine AOps.callIs hP hn rfl [] 100 (awake_run _ (by simp [hw, hw.append_closed])) (by simp [RA]) (by simp <;> rfl) (by kernel_rfl) ?_
    simp [-wrap_i64, -wrap_u32, a1, a2, show (n.tmod 4 == 0) = false by simp [a2], a5, a6, h0, show f < 9 by omega, show ¬ 1 < f by omega, h2]
    refine AOps.callIs hP hn rfl [] 100 (refField_run r hr f _ (by simp [hw, hw.append_closed])) (by simp [RA]) (by simp <;> rfl) (by kernel_rfl) ?_
    have hz : eqR (withR r f v) (fun _ => 0) = true := eqR_iff.2 fun j _ => by simp [withR, ho]
    have hz2 := eqAVs_RL (withR r f v) (fun _ => 0)
    simp only [RL_z, hz] at hz2
    simp [-wrap_i64, -wrap_u32, a1, a2, show (n.tmod 4 == 0) = false by simp [a2], a5, a6, h0, show f < 9 by omega, show ¬ 1 < f by omega, h2, hi, ho, hz2]
    exact AGo.ret_isM hP Try.func3 hL hw (by simp [Try.f3] <;> rfl) rfl rfl rfl

theorem tells_law (r : Nat → Int) (hr : OkR r) (f v n : Int) (hv : 0 ≤ v ∧ v < 18446744073709551616) (hn0 : 0 ≤ n ∧ n < 4294967296) (L : List AObj) (hw : WFL L) :
    ACall Try.prog 3 [RA r, .int .i64 f, .int .u64 v, .int .u32 n] L (Is (.bool true) L) := by
  by_cases h1 : f < 0
  · exact tells_1 r hr f v n hv hn0 h1 L hw
  · by_cases h2 : 9 ≤ f
    · exact tells_2 r hr f v n hv hn0 (by omega) h2 L hw
    · by_cases h3 : 1 < f
      · exact tells_3 r hr f v n hv hn0 h3 (by omega) L hw
      · by_cases h4 : v < 4294967296
        · exact tells_4 r hr f v n hv hn0 (by omega) (by omega) h4 L hw
        · exact tells_5 r hr f v n hv hn0 (by omega) (by omega) h4 L hw

end Go.Proofs.Ytpneikbihcoaaaa.Vm

/- The law of how many numbers are in a set, walked. -/
import Derived.Test.YtpneikbihcoaaaaIset14
import Derived.Test.YtpneikbihcoaaaaSet4
import Derived.Test.YtpneikbihcoaaaaWalkIsetNorm
import Derived.Test.YtpneikbihcoaaaaWalkIsetLaws
open Go Go.Proofs Go.Proofs.Ytpneikbihcoaaaa
namespace Go.Proofs.Ytpneikbihcoaaaa.Vm
set_option linter.unusedVariables false
set_option linter.unusedSimpArgs false

def headS : List Sp → Int × Bool
  | [] => (0, false)
  | s :: _ => (s.1, true)
theorem least_head (a : List Sp) : leastS a = headS (normW 64 a) := by
  unfold leastS
  cases normW 64 a <;> rfl

set_option maxRecDepth 8000 in
set_option maxHeartbeats 4000000 in
theorem count_law (a b : List Sp) (ha : OkS a) (hb : OkS b) (L : List AObj) (hw : WFL L) :
    ACall Try.prog 13 [.slice (spL a), .slice (spL b)] L (Is (.bool true) L) := by
  refine ACall.walk (by kernel_rfl) Try.func13 rfl rfl rfl rfl [] (by kernel_rfl) kp13 200 fun c hP hn hL => ?_
  simp [Try.f13]
  refine AOps.callIs hP hn rfl [] 200 (awake15_run _ (by simp [hw, hw.append_closed])) (by simp) (by simp <;> rfl) (by kernel_rfl) ?_
  by_cases g1 : (60 : Int) < a.length
  · simp [g1]
    refine AOps.callIs hP hn rfl [] 200 (awake15_run _ (by simp [hw, hw.append_closed])) (by simp) (by simp <;> rfl) (by kernel_rfl) ?_
    simp
    exact AGo.ret_is hP Try.func13 hL hw (by simp [Try.f13] <;> rfl) rfl rfl rfl
  by_cases g2 : (60 : Int) < b.length
  · simp [g1, g2]
    refine AOps.callIs hP hn rfl [] 200 (awake15_run _ (by simp [hw, hw.append_closed])) (by simp) (by simp <;> rfl) (by kernel_rfl) ?_
    simp
    exact AGo.ret_is hP Try.func13 hL hw (by simp [Try.f13] <;> rfl) rfl rfl rfl
  have l1 := normW_len 64 a
  have l2 := normW_len 32 a
  have l3 := normW_len 32 b
  have hboth := count_both ha hb
  have ox : OkS (normW 32 a) := okS_norm ha
  have oy : OkS (normW 32 b) := okS_norm hb
  have l4 := and_len (normW 32 a) (normW 32 b)
  have l5 := or_len (normW 32 a) (normW 32 b)
  have oA : OkS (andS (normW 32 a) (normW 32 b)) := okS_and ox
  have oO := okS_or ox oy
  simp [g1, g2]
  refine AOps.callIs hP hn rfl [] 200 (norm_is a (by omega) ha 64 _ (by simp [hw, hw.append_closed])) (by simp) (by simp <;> rfl) (by kernel_rfl) ?_
  have hF : Form topS (normW 64 a) := norm_form _ _
  have oF : OkS (normW 64 a) := okS_norm ha
  have cc : ∀ L, WFL L → ACall Try.prog 47 [.slice (spL a)] L (Is (.int .u64 (countN 0 (normW 64 a))) L) := fun L hw => count_run a (by omega) ha L hw
  have cl : ∀ L, WFL L → ACall Try.prog 46 [.slice (spL a)] L (Is (.tup [.int .u64 (leastS a).1, .bool (leastS a).2]) L) := fun L hw => least_run a (by omega) ha L hw
  have hle := least_head a
  have hcf := count_form hF oF
  generalize normW 64 a = F at *
  simp
  refine AGo.loopE (α := CO) (fun s => F.drop s.i = s.rest ∧ sumN s.n s.rest = sumN 0 F ∧ s.i ≤ F.length) (fun s => s.n = sumN 0 F) (fun s => s.rest.length) [0, 1, 5, 6, 28, 29, 30]
    (fun s => [.slice (spL a), .slice (spL b), .slice (spL F), .int .u64 s.n, .slice (spL F), .int .i64 F.length, .int .i64 s.i]) (fun s => L) ⟨0, F, 0⟩ (by kernel_rfl) (by kernel_rfl) (by kernel_rfl) (by simp) (by simp) (by simp) ?_ ?_
  · rintro ⟨i, rest, n⟩ y z hR ⟨hd, h1, hi⟩ ih hex
    simp only at hd h1 hi
    refine AGo.go hP hn rfl [100000] kp13 200 (hR.ok _) ?_
    cases rest with
    | nil =>
      have hlt2 : ¬ ((i : Int) < F.length) := by
        have := congrArg List.length hd
        simp at this; omega
      simp [hlt2]
      exact AGo.again (hex ⟨i, [], n⟩ (by simpa [sumN] using h1)) (by simp) (by simp)
    | cons s r =>
      obtain ⟨hg, hd', hlt, hmem⟩ := drop_get hd
      have hlt2 : (i : Int) < F.length := by omega
      have w1 : IntKind.i64.wrap ((i : Int) + 1) = ((i + 1 : Nat) : Int) := by rw [wrap_id (by omega) (by omega)]; simp
      have w2 : IntKind.u64.wrap (n + IntKind.u64.wrap (IntKind.u64.wrap (s.2 - s.1) + 1)) = (n + (s.2 - s.1 + 1)) % 18446744073709551616 := by simp only [wrap_u64]; omega
      simp [-wrap_i64, -wrap_u64, hlt2, hg, w1, w2]
      refine AGo.keep [0, 1, 5, 6, 28, 29, 30] ?_
      simp
      refine AGo.trimTo (M := []) (N := [_]) hL hw (by simp [AV.idsL, AV.ids]) (by simp [AV.ids]) ?_
      exact AGo.again (ih ⟨i + 1, r, _⟩ (by simp) ⟨hd', h1, by simp; omega⟩) (by simp) (by simp)
  rintro ⟨i, rest, n⟩ h1
  simp only at h1
  subst h1
  refine AGo.go hP hn rfl [] kp13 200 (by kernel_rfl) ?_
  rcases F with _ | ⟨s, _ | ⟨t, r⟩⟩
  · have e0 : countN 0 [] = 0 := rfl
    have e1 : sumN 0 [] = 0 := rfl
    simp [e1]
    refine AOps.callIs hP hn rfl [] 200 (cl _ (by simp [hw, hw.append_closed])) (by simp) (by simp <;> rfl) (by kernel_rfl) ?_
    simp [hle, headS]
    refine AOps.callIs hP hn rfl [] 200 (cc _ (by simp [hw, hw.append_closed])) (by simp) (by simp <;> rfl) (by kernel_rfl) ?_
    simp [e0]
    refine AOps.callIs hP hn rfl [] 200 (norm_is a (by omega) ha 32 _ (by simp [hw, hw.append_closed])) (by simp) (by simp <;> rfl) (by kernel_rfl) ?_
    simp
    refine AOps.callIs hP hn rfl [] 200 (norm_is b (by omega) hb 32 _ (by simp [hw, hw.append_closed])) (by simp) (by simp <;> rfl) (by kernel_rfl) ?_
    simp
    refine AOps.callIs hP hn rfl [] 200 (and_is (normW 32 a) (normW 32 b) (by omega) (by omega) ox oy _ (by simp [hw, hw.append_closed])) (by simp) (by simp <;> rfl) (by kernel_rfl) ?_
    simp
    refine AOps.callIs hP hn rfl [] 200 (count_run (andS (normW 32 a) (normW 32 b)) (by omega) oA _ (by simp [hw, hw.append_closed])) (by simp) (by simp <;> rfl) (by kernel_rfl) ?_
    simp
    refine AOps.callIs hP hn rfl [] 200 (or_run (normW 32 a) (normW 32 b) (by omega) (by omega) ox oy _ (by simp [hw, hw.append_closed])) (by simp) (by simp <;> rfl) (by kernel_rfl) ?_
    simp
    refine AOps.callIs hP hn rfl [] 200 (count_run (orS (normW 32 a) (normW 32 b)) (by omega) oO _ (by simp [hw, hw.append_closed])) (by simp) (by simp <;> rfl) (by kernel_rfl) ?_
    simp [hboth]
    refine AOps.callIs hP hn rfl [] 200 (count_run (normW 32 a) (by omega) ox _ (by simp [hw, hw.append_closed])) (by simp) (by simp <;> rfl) (by kernel_rfl) ?_
    simp
    refine AOps.callIs hP hn rfl [] 200 (count_run (normW 32 b) (by omega) oy _ (by simp [hw, hw.append_closed])) (by simp) (by simp <;> rfl) (by kernel_rfl) ?_
    simp
    exact AGo.ret_is hP Try.func13 hL hw (by simp [Try.f13] <;> rfl) rfl rfl rfl
  · have eS : spL [s] = [.agg [.int .u64 s.1, .int .u64 s.2]] := rfl
    by_cases h1 : s.1 = 0
    · by_cases h2 : s.2 = 18446744073709551615
      · have es : s = (0, 18446744073709551615) := Prod.ext h1 h2
        subst es
        rw [if_pos rfl] at hcf
        simp [eS]
        refine AOps.callIs hP hn rfl [] 200 (cl _ (by simp [hw, hw.append_closed])) (by simp) (by simp <;> rfl) (by kernel_rfl) ?_
        simp [hle, headS]
        refine AOps.callIs hP hn rfl [] 200 (cc _ (by simp [hw, hw.append_closed])) (by simp) (by simp <;> rfl) (by kernel_rfl) ?_
        simp [hcf]
        refine AOps.callIs hP hn rfl [] 200 (norm_is a (by omega) ha 32 _ (by simp [hw, hw.append_closed])) (by simp) (by simp <;> rfl) (by kernel_rfl) ?_
        simp
        refine AOps.callIs hP hn rfl [] 200 (norm_is b (by omega) hb 32 _ (by simp [hw, hw.append_closed])) (by simp) (by simp <;> rfl) (by kernel_rfl) ?_
        simp
        refine AOps.callIs hP hn rfl [] 200 (and_is (normW 32 a) (normW 32 b) (by omega) (by omega) ox oy _ (by simp [hw, hw.append_closed])) (by simp) (by simp <;> rfl) (by kernel_rfl) ?_
        simp
        refine AOps.callIs hP hn rfl [] 200 (count_run (andS (normW 32 a) (normW 32 b)) (by omega) oA _ (by simp [hw, hw.append_closed])) (by simp) (by simp <;> rfl) (by kernel_rfl) ?_
        simp
        refine AOps.callIs hP hn rfl [] 200 (or_run (normW 32 a) (normW 32 b) (by omega) (by omega) ox oy _ (by simp [hw, hw.append_closed])) (by simp) (by simp <;> rfl) (by kernel_rfl) ?_
        simp
        refine AOps.callIs hP hn rfl [] 200 (count_run (orS (normW 32 a) (normW 32 b)) (by omega) oO _ (by simp [hw, hw.append_closed])) (by simp) (by simp <;> rfl) (by kernel_rfl) ?_
        simp [hboth]
        refine AOps.callIs hP hn rfl [] 200 (count_run (normW 32 a) (by omega) ox _ (by simp [hw, hw.append_closed])) (by simp) (by simp <;> rfl) (by kernel_rfl) ?_
        simp
        refine AOps.callIs hP hn rfl [] 200 (count_run (normW 32 b) (by omega) oy _ (by simp [hw, hw.append_closed])) (by simp) (by simp <;> rfl) (by kernel_rfl) ?_
        simp
        exact AGo.ret_is hP Try.func13 hL hw (by simp [Try.f13] <;> rfl) rfl rfl rfl
      · have h2b : (s.2 == 18446744073709551615) = false := by simpa using h2
        rw [if_neg (by rintro h; apply h2; have := List.cons.inj h; rw [this.1])] at hcf
        simp [eS, h1, h2, h2b]
        refine AOps.callIs hP hn rfl [] 200 (cl _ (by simp [hw, hw.append_closed])) (by simp) (by simp <;> rfl) (by kernel_rfl) ?_
        simp [hle, headS, h1]
        refine AOps.callIs hP hn rfl [] 200 (cc _ (by simp [hw, hw.append_closed])) (by simp) (by simp <;> rfl) (by kernel_rfl) ?_
        simp [hcf]
        refine AOps.callIs hP hn rfl [] 200 (norm_is a (by omega) ha 32 _ (by simp [hw, hw.append_closed])) (by simp) (by simp <;> rfl) (by kernel_rfl) ?_
        simp
        refine AOps.callIs hP hn rfl [] 200 (norm_is b (by omega) hb 32 _ (by simp [hw, hw.append_closed])) (by simp) (by simp <;> rfl) (by kernel_rfl) ?_
        simp
        refine AOps.callIs hP hn rfl [] 200 (and_is (normW 32 a) (normW 32 b) (by omega) (by omega) ox oy _ (by simp [hw, hw.append_closed])) (by simp) (by simp <;> rfl) (by kernel_rfl) ?_
        simp
        refine AOps.callIs hP hn rfl [] 200 (count_run (andS (normW 32 a) (normW 32 b)) (by omega) oA _ (by simp [hw, hw.append_closed])) (by simp) (by simp <;> rfl) (by kernel_rfl) ?_
        simp
        refine AOps.callIs hP hn rfl [] 200 (or_run (normW 32 a) (normW 32 b) (by omega) (by omega) ox oy _ (by simp [hw, hw.append_closed])) (by simp) (by simp <;> rfl) (by kernel_rfl) ?_
        simp
        refine AOps.callIs hP hn rfl [] 200 (count_run (orS (normW 32 a) (normW 32 b)) (by omega) oO _ (by simp [hw, hw.append_closed])) (by simp) (by simp <;> rfl) (by kernel_rfl) ?_
        simp [hboth]
        refine AOps.callIs hP hn rfl [] 200 (count_run (normW 32 a) (by omega) ox _ (by simp [hw, hw.append_closed])) (by simp) (by simp <;> rfl) (by kernel_rfl) ?_
        simp
        refine AOps.callIs hP hn rfl [] 200 (count_run (normW 32 b) (by omega) oy _ (by simp [hw, hw.append_closed])) (by simp) (by simp <;> rfl) (by kernel_rfl) ?_
        simp
        exact AGo.ret_is hP Try.func13 hL hw (by simp [Try.f13] <;> rfl) rfl rfl rfl
    · have h1b : (s.1 == 0) = false := by simpa using h1
      rw [if_neg (by rintro h; apply h1; have := List.cons.inj h; rw [this.1])] at hcf
      simp [eS, h1, h1b]
      refine AOps.callIs hP hn rfl [] 200 (cl _ (by simp [hw, hw.append_closed])) (by simp) (by simp <;> rfl) (by kernel_rfl) ?_
      simp [hle, headS]
      refine AOps.callIs hP hn rfl [] 200 (cc _ (by simp [hw, hw.append_closed])) (by simp) (by simp <;> rfl) (by kernel_rfl) ?_
      simp [hcf]
      refine AOps.callIs hP hn rfl [] 200 (norm_is a (by omega) ha 32 _ (by simp [hw, hw.append_closed])) (by simp) (by simp <;> rfl) (by kernel_rfl) ?_
      simp
      refine AOps.callIs hP hn rfl [] 200 (norm_is b (by omega) hb 32 _ (by simp [hw, hw.append_closed])) (by simp) (by simp <;> rfl) (by kernel_rfl) ?_
      simp
      refine AOps.callIs hP hn rfl [] 200 (and_is (normW 32 a) (normW 32 b) (by omega) (by omega) ox oy _ (by simp [hw, hw.append_closed])) (by simp) (by simp <;> rfl) (by kernel_rfl) ?_
      simp
      refine AOps.callIs hP hn rfl [] 200 (count_run (andS (normW 32 a) (normW 32 b)) (by omega) oA _ (by simp [hw, hw.append_closed])) (by simp) (by simp <;> rfl) (by kernel_rfl) ?_
      simp
      refine AOps.callIs hP hn rfl [] 200 (or_run (normW 32 a) (normW 32 b) (by omega) (by omega) ox oy _ (by simp [hw, hw.append_closed])) (by simp) (by simp <;> rfl) (by kernel_rfl) ?_
      simp
      refine AOps.callIs hP hn rfl [] 200 (count_run (orS (normW 32 a) (normW 32 b)) (by omega) oO _ (by simp [hw, hw.append_closed])) (by simp) (by simp <;> rfl) (by kernel_rfl) ?_
      simp [hboth]
      refine AOps.callIs hP hn rfl [] 200 (count_run (normW 32 a) (by omega) ox _ (by simp [hw, hw.append_closed])) (by simp) (by simp <;> rfl) (by kernel_rfl) ?_
      simp
      refine AOps.callIs hP hn rfl [] 200 (count_run (normW 32 b) (by omega) oy _ (by simp [hw, hw.append_closed])) (by simp) (by simp <;> rfl) (by kernel_rfl) ?_
      simp
      exact AGo.ret_is hP Try.func13 hL hw (by simp [Try.f13] <;> rfl) rfl rfl rfl
  · have eS : spL (s :: t :: r) = .agg [.int .u64 s.1, .int .u64 s.2] :: spL (t :: r) := rfl
    rw [if_neg (by intro h; simp at h)] at hcf
    have e9 : ((r.length : Int) + 1 + 1 == 1) = false := by rw [beq_eq_false_iff_ne]; omega
    have e8 : (0 : Int) < (r.length : Int) + 1 + 1 := by omega
    simp [eS, e9]
    refine AOps.callIs hP hn rfl [] 200 (cl _ (by simp [hw, hw.append_closed])) (by simp) (by simp <;> rfl) (by kernel_rfl) ?_
    simp [hle, headS]
    refine AOps.callIs hP hn rfl [] 200 (cc _ (by simp [hw, hw.append_closed])) (by simp) (by simp <;> rfl) (by kernel_rfl) ?_
    simp [hcf, e8]
    refine AOps.callIs hP hn rfl [] 200 (norm_is a (by omega) ha 32 _ (by simp [hw, hw.append_closed])) (by simp) (by simp <;> rfl) (by kernel_rfl) ?_
    simp
    refine AOps.callIs hP hn rfl [] 200 (norm_is b (by omega) hb 32 _ (by simp [hw, hw.append_closed])) (by simp) (by simp <;> rfl) (by kernel_rfl) ?_
    simp
    refine AOps.callIs hP hn rfl [] 200 (and_is (normW 32 a) (normW 32 b) (by omega) (by omega) ox oy _ (by simp [hw, hw.append_closed])) (by simp) (by simp <;> rfl) (by kernel_rfl) ?_
    simp
    refine AOps.callIs hP hn rfl [] 200 (count_run (andS (normW 32 a) (normW 32 b)) (by omega) oA _ (by simp [hw, hw.append_closed])) (by simp) (by simp <;> rfl) (by kernel_rfl) ?_
    simp
    refine AOps.callIs hP hn rfl [] 200 (or_run (normW 32 a) (normW 32 b) (by omega) (by omega) ox oy _ (by simp [hw, hw.append_closed])) (by simp) (by simp <;> rfl) (by kernel_rfl) ?_
    simp
    refine AOps.callIs hP hn rfl [] 200 (count_run (orS (normW 32 a) (normW 32 b)) (by omega) oO _ (by simp [hw, hw.append_closed])) (by simp) (by simp <;> rfl) (by kernel_rfl) ?_
    simp [hboth]
    refine AOps.callIs hP hn rfl [] 200 (count_run (normW 32 a) (by omega) ox _ (by simp [hw, hw.append_closed])) (by simp) (by simp <;> rfl) (by kernel_rfl) ?_
    simp
    refine AOps.callIs hP hn rfl [] 200 (count_run (normW 32 b) (by omega) oy _ (by simp [hw, hw.append_closed])) (by simp) (by simp <;> rfl) (by kernel_rfl) ?_
    simp
    exact AGo.ret_is hP Try.func13 hL hw (by simp [Try.f13] <;> rfl) rfl rfl rfl

end Go.Proofs.Ytpneikbihcoaaaa.Vm


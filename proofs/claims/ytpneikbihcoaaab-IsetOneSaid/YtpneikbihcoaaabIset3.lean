/- Has, Same, Equal and Right, and the document's own. -/
import Derived.Test.YtpneikbihcoaaabIset2
open Go Go.Proofs Go.Proofs.Ytpneikbihcoaaab
namespace Go.Proofs.Ytpneikbihcoaaab.Vm
set_option linter.unusedVariables false
set_option linter.unusedSimpArgs false

theorem norm_is (l : List Sp) (hl : l.length < 1099511627776) (hok : OkS l) (w : Int) (L : List AObj) (hw : WFL L) :
    ACall Try.prog 6 [.slice (spL l), .int .i64 w] L (Is (.slice (spL (normW w l))) L) := (norm_run l hl hok w L hw).rowS hw

def topR (w : Int) : Int := if w = 32 then 4294967295 else 18446744073709551615

theorem top_run (w : Int) (L : List AObj) (hw : WFL L) : ACall Try.prog 30 [.int .i64 w] L (Is (.tup [.int .u64 (topR w), .bool (okW w)]) L) := by
  refine ACall.walk (by kernel_rfl) Try.func30 rfl rfl rfl rfl [] (by kernel_rfl) kp30 100 fun c hP hn hL => ?_
  by_cases h1 : w = 32
  · subst h1
    simp [Try.f30]
    exact AGo.ret_is hP Try.func30 hL hw (by simp [Try.f30] <;> rfl) rfl rfl (by simp [topR, okW])
  · have e1 : (w == 32) = false := by simpa using h1
    simp [Try.f30, e1, h1]
    exact AGo.ret_is hP Try.func30 hL hw (by simp [Try.f30] <;> rfl) rfl rfl (by simp [topR, okW, h1])

theorem has_at {l : List Sp} {i : Nat} {x : Int} (hi : i < l.length) (h1 : (l.getD i (0, 0)).1 ≤ x) (h2 : x ≤ (l.getD i (0, 0)).2) : hasS l x = true := by
  rw [hasS_iff]
  exact ⟨l.getD i (0, 0), by simp [List.getD, hi], h1, h2⟩
theorem has_none {l : List Sp} {x : Int} (h : ∀ j, j < l.length → ¬ ((l.getD j (0, 0)).1 ≤ x ∧ x ≤ (l.getD j (0, 0)).2)) : hasS l x = false := by
  rw [Bool.eq_false_iff, Ne, hasS_iff]
  rintro ⟨s, hs, h1, h2⟩
  obtain ⟨i, hi, rfl⟩ := List.getElem_of_mem hs
  exact h i hi (by simp [List.getD, hi]; exact ⟨h1, h2⟩)

set_option maxRecDepth 4000 in
theorem rhas_run (l : List Sp) (hl : l.length < 1099511627776) (x : Int) (L : List AObj) (hw : WFL L) : ACall Try.prog 12 [.slice (spL l), .int .u64 x] L (Is (.bool (hasS l x)) L) := by
  refine ACall.walk (by kernel_rfl) Try.func12 rfl rfl rfl rfl [] (by kernel_rfl) kp12 100 fun c hP hn hL => ?_
  simp [Try.f12]
  refine AGo.loopE (α := Nat) (fun i => i ≤ l.length ∧ ∀ j, j < i → ¬ ((l.getD j (0, 0)).1 ≤ x ∧ x ≤ (l.getD j (0, 0)).2)) (fun i => hasS l x = false) (fun i => l.length - i) [0, 1, 5] (fun i => [.slice (spL l), .int .u64 x, .int .i64 i])
    (fun _ => L) 0 (by kernel_rfl) (by kernel_rfl) (by kernel_rfl) (by simp) (by simp) (by simp) ?_ ?_
  rotate_left
  · intro i hi
    refine AGo.go hP hn rfl [] kp12 100 (by kernel_rfl) ?_
    simp
    exact AGo.ret_is hP Try.func12 hL hw (by simp [Try.f12] <;> rfl) rfl rfl (by rw [hi])
  intro i y z hR ⟨hi, hno⟩ ih hex
  refine AGo.go hP hn rfl [100000] kp12 100 (hR.ok _) ?_
  by_cases hlt : i < l.length
  · have hlt2 : (i : Int) < l.length := by omega
    have hg := spL_get hlt
    have ha := has_at (x := x) hlt
    have hn2 : ¬ ((l.getD i (0, 0)).1 ≤ x ∧ x ≤ (l.getD i (0, 0)).2) → ∀ j, j < i + 1 → ¬ ((l.getD j (0, 0)).1 ≤ x ∧ x ≤ (l.getD j (0, 0)).2) := fun h j hj => by
      rcases Nat.lt_succ_iff_lt_or_eq.1 hj with h1 | h1
      · exact hno j h1
      · rw [h1]; exact h
    generalize l.getD i (0, 0) = s at *
    obtain ⟨s1, s2⟩ := s
    simp only at hg ha hn2
    have w1 : IntKind.i64.wrap ((i : Int) + 1) = ((i + 1 : Nat) : Int) := by rw [wrap_id (by omega) (by omega)]; simp
    by_cases h1 : s1 ≤ x
    · by_cases h2 : x ≤ s2
      · simp [-wrap_i64, hlt2, hg, h1, h2]
        exact AGo.ret_is hP Try.func12 hL hw (by simp [Try.f12] <;> rfl) rfl rfl (by rw [ha h1 h2])
      · simp [-wrap_i64, hlt2, hg, h1, h2, w1]
        exact AGo.again (ih (i + 1) (by omega) ⟨by omega, hn2 (fun h => h2 h.2)⟩) (by simp) (by simp)
    · simp [-wrap_i64, hlt2, hg, h1, w1]
      exact AGo.again (ih (i + 1) (by omega) ⟨by omega, hn2 (fun h => h1 h.1)⟩) (by simp) (by simp)
  · have hil : i = l.length := by omega
    subst hil
    simp
    exact AGo.again (hex l.length (has_none hno)) (by simp) (by simp)

@[simp] theorem plainSp (a0 a1 : Int) : plainFit Try.prog 64 38 (.agg [.int .u64 a0, .int .u64 a1]) = true := by kernel_rfl
@[simp] theorem eqgSp : Try.prog.eqGuardType Try.prog.depth 38 = false := by kernel_rfl

def sameS (a b : List Sp) : Bool := decide (a = b)

theorem same_len {a b : List Sp} (h : ¬ a.length = b.length) : sameS a b = false := by
  simp only [sameS, decide_eq_false_iff_not]
  rintro rfl; exact h rfl
theorem same_at {a b : List Sp} {i : Nat} (h : ¬ (a.getD i (0, 0)) = b.getD i (0, 0)) : sameS a b = false := by
  simp only [sameS, decide_eq_false_iff_not]
  rintro rfl; exact h rfl
theorem same_all {a b : List Sp} (hl : a.length = b.length) (h : ∀ j, j < a.length → a.getD j (0, 0) = b.getD j (0, 0)) : sameS a b = true := by
  simp only [sameS, decide_eq_true_eq]
  apply List.ext_getElem hl
  intro i h1 h2
  have := h i h1
  simpa [List.getD, h1, h2] using this

set_option maxRecDepth 4000 in
theorem same_run (a b : List Sp) (ha : a.length < 1099511627776) (L : List AObj) (hw : WFL L) : ACall Try.prog 9 [.slice (spL a), .slice (spL b)] L (Is (.bool (sameS a b)) L) := by
  refine ACall.walk (by kernel_rfl) Try.func9 rfl rfl rfl rfl [] (by kernel_rfl) kp9 100 fun c hP hn hL => ?_
  by_cases hl : a.length = b.length
  · have hl2 : (b.length : Int) = a.length := by omega
    simp [Try.f9, hl2]
    refine AGo.loopE (α := Nat) (fun i => i ≤ a.length ∧ ∀ j, j < i → a.getD j (0, 0) = b.getD j (0, 0)) (fun i => sameS a b = true) (fun i => a.length - i) [0, 1, 5] (fun i => [.slice (spL a), .slice (spL b), .int .i64 i])
      (fun _ => L) 0 (by kernel_rfl) (by kernel_rfl) (by kernel_rfl) (by simp) (by simp) (by simp) ?_ ?_
    rotate_left
    · intro i hi
      refine AGo.go hP hn rfl [] kp9 100 (by kernel_rfl) ?_
      simp
      exact AGo.ret_is hP Try.func9 hL hw (by simp [Try.f9] <;> rfl) rfl rfl (by rw [hi])
    intro i y z hR ⟨hi, hno⟩ ih hex
    refine AGo.go hP hn rfl [100000] kp9 100 (hR.ok _) ?_
    by_cases hlt : i < a.length
    · have hlt2 : (i : Int) < a.length := by omega
      have hlb : i < b.length := by omega
      have hg := spL_get hlt
      have hg2 := spL_get hlb
      have h1 := same_at (a := a) (b := b) (i := i)
      have hn2 : a.getD i (0, 0) = b.getD i (0, 0) → ∀ j, j < i + 1 → a.getD j (0, 0) = b.getD j (0, 0) := fun h j hj => by
        rcases Nat.lt_succ_iff_lt_or_eq.1 hj with h1 | h1
        · exact hno j h1
        · rw [h1]; exact h
      generalize a.getD i (0, 0) = s at *
      generalize b.getD i (0, 0) = t at *
      obtain ⟨s1, s2⟩ := s
      obtain ⟨t1, t2⟩ := t
      simp only at hg hg2 h1 hn2
      have w1 : IntKind.i64.wrap ((i : Int) + 1) = ((i + 1 : Nat) : Int) := by rw [wrap_id (by omega) (by omega)]; simp
      by_cases h3 : s1 = t1
      · by_cases h4 : s2 = t2
        · simp [-wrap_i64, hlt2, hg, hg2, h3, h4, w1]
          exact AGo.again (ih (i + 1) (by omega) ⟨by omega, hn2 (by rw [h3, h4])⟩) (by simp) (by simp)
        · have h4' : (s2 == t2) = false := by simpa using h4
          simp [-wrap_i64, hlt2, hg, hg2, h3, h4, h4', w1]
          exact AGo.ret_is hP Try.func9 hL hw (by simp [Try.f9] <;> rfl) rfl rfl (by rw [h1 (by simp [h4])])
      · have h3' : (s1 == t1) = false := by simpa using h3
        simp [-wrap_i64, hlt2, hg, hg2, h3, h3', w1]
        exact AGo.ret_is hP Try.func9 hL hw (by simp [Try.f9] <;> rfl) rfl rfl (by rw [h1 (by simp [h3])])
    · have hil : i = a.length := by omega
      subst hil
      simp
      exact AGo.again (hex a.length (same_all hl hno)) (by simp) (by simp)
  · have hl2 : ¬ ((a.length : Int) = b.length) := by omega
    have hl3 : ((a.length : Int) == b.length) = false := by rw [beq_eq_false_iff_ne]; exact hl2
    simp [Try.f9, hl2, hl3, hl]
    exact AGo.ret_is hP Try.func9 hL hw (by simp [Try.f9] <;> rfl) rfl rfl (by rw [same_len hl])

set_option maxRecDepth 4000 in
theorem equal_run (a b : List Sp) (ha : a.length < 1099511627776) (L : List AObj) (hw : WFL L) : ACall Try.prog 29 [.slice (spL a), .slice (spL b)] L (Is (.bool (sameS a b)) L) := by
  refine ACall.walk (by kernel_rfl) Try.func29 rfl rfl rfl rfl [] (by kernel_rfl) kp29 100 fun c hP hn hL => ?_
  by_cases hl : a.length = b.length
  · have hl2 : (b.length : Int) = a.length := by omega
    simp [Try.f29, hl2]
    refine AGo.loopE (α := Nat) (fun i => i ≤ a.length ∧ ∀ j, j < i → a.getD j (0, 0) = b.getD j (0, 0)) (fun i => sameS a b = true) (fun i => a.length - i) [0, 1, 12, 13] (fun i => [.slice (spL a), .slice (spL b), .int .i64 a.length, .int .i64 i])
      (fun _ => L) 0 (by kernel_rfl) (by kernel_rfl) (by kernel_rfl) (by simp) (by simp) (by simp) ?_ ?_
    rotate_left
    · intro i hi
      refine AGo.go hP hn rfl [] kp29 100 (by kernel_rfl) ?_
      simp
      exact AGo.ret_is hP Try.func29 hL hw (by simp [Try.f29] <;> rfl) rfl rfl (by rw [hi])
    intro i y z hR ⟨hi, hno⟩ ih hex
    refine AGo.go hP hn rfl [100000] kp29 100 (hR.ok _) ?_
    by_cases hlt : i < a.length
    · have hlt2 : (i : Int) < a.length := by omega
      have hlb : i < b.length := by omega
      have hg := spL_get hlt
      have hg2 := spL_get hlb
      have h1 := same_at (a := a) (b := b) (i := i)
      have hn2 : a.getD i (0, 0) = b.getD i (0, 0) → ∀ j, j < i + 1 → a.getD j (0, 0) = b.getD j (0, 0) := fun h j hj => by
        rcases Nat.lt_succ_iff_lt_or_eq.1 hj with h1 | h1
        · exact hno j h1
        · rw [h1]; exact h
      generalize a.getD i (0, 0) = s at *
      generalize b.getD i (0, 0) = t at *
      obtain ⟨s1, s2⟩ := s
      obtain ⟨t1, t2⟩ := t
      simp only at hg hg2 h1 hn2
      have w1 : IntKind.i64.wrap ((i : Int) + 1) = ((i + 1 : Nat) : Int) := by rw [wrap_id (by omega) (by omega)]; simp
      by_cases h3 : s1 = t1
      · by_cases h4 : s2 = t2
        · simp [-wrap_i64, hlt2, hg, hg2, h3, h4, w1]
          exact AGo.again (ih (i + 1) (by omega) ⟨by omega, hn2 (by rw [h3, h4])⟩) (by simp) (by simp)
        · have h4' : (s2 == t2) = false := by simpa using h4
          simp [-wrap_i64, hlt2, hg, hg2, h3, h4, h4', w1]
          exact AGo.ret_is hP Try.func29 hL hw (by simp [Try.f29] <;> rfl) rfl rfl (by rw [h1 (by simp [h4])])
      · have h3' : (s1 == t1) = false := by simpa using h3
        simp [-wrap_i64, hlt2, hg, hg2, h3, h3', w1]
        exact AGo.ret_is hP Try.func29 hL hw (by simp [Try.f29] <;> rfl) rfl rfl (by rw [h1 (by simp [h3])])
    · have hil : i = a.length := by omega
      subst hil
      simp
      exact AGo.again (hex a.length (same_all hl hno)) (by simp) (by simp)
  · have hl2 : ¬ ((a.length : Int) = b.length) := by omega
    have hl3 : ((a.length : Int) == b.length) = false := by rw [beq_eq_false_iff_ne]; exact hl2
    simp [Try.f29, hl2, hl3, hl]
    exact AGo.ret_is hP Try.func29 hL hw (by simp [Try.f29] <;> rfl) rfl rfl (by rw [same_len hl])

theorem right_no {most : Int} {l : List Sp} {i : Nat} (hi : i < l.length) (h : okI most l i = false) : rightS most l = false := by
  rw [rightS, List.all_eq_false]
  exact ⟨i, List.mem_range.2 hi, by simp [h]⟩
theorem right_all {most : Int} {l : List Sp} (h : ∀ j, j < l.length → okI most l j = true) : rightS most l = true := by
  rw [rightS, List.all_eq_true]
  exact fun i hi => h i (List.mem_range.1 hi)

set_option maxRecDepth 4000 in
set_option maxHeartbeats 1000000 in
theorem rright_run (l : List Sp) (hl : l.length < 1099511627776) (hok : OkS l) (w : Int) (L : List AObj) (hw : WFL L) :
    ACall Try.prog 8 [.slice (spL l), .int .i64 w] L (Is (.bool (okW w && rightS (topR w) l)) L) := by
  refine ACall.walk (by kernel_rfl) Try.func8 rfl rfl rfl rfl [] (by kernel_rfl) kp8 100 fun c hP hn hL => ?_
  simp [Try.f8]
  refine AOps.callIs hP hn rfl [] 100 (top_run w _ (by simp [hw, hw.append_closed])) (by simp) (by simp <;> rfl) (by kernel_rfl) ?_
  by_cases h0 : okW w = true
  · simp [h0]
    refine AGo.loopE (α := Nat) (fun i => i ≤ l.length ∧ ∀ j, j < i → okI (topR w) l j = true) (fun i => rightS (topR w) l = true) (fun i => l.length - i) [0, 5, 7] (fun i => [.slice (spL l), .int .u64 (topR w), .int .i64 i])
      (fun _ => L) 0 (by kernel_rfl) (by kernel_rfl) (by kernel_rfl) (by simp) (by simp) (by simp) ?_ ?_
    rotate_left
    · intro i hi
      refine AGo.go hP hn rfl [] kp8 100 (by kernel_rfl) ?_
      simp
      exact AGo.ret_is hP Try.func8 hL hw (by simp [Try.f8] <;> rfl) rfl rfl (by simp [hi])
    intro i y z hR ⟨hi, hno⟩ ih hex
    refine AGo.go hP hn rfl [100000] kp8 100 (hR.ok _) ?_
    by_cases hlt : i < l.length
    · have hlt2 : (i : Int) < l.length := by omega
      have hg := spL_get hlt
      have hg2 : 0 < i → (spL l)[i - 1]? = some (.agg [.int .u64 (l.getD (i - 1) (0, 0)).1, .int .u64 (l.getD (i - 1) (0, 0)).2]) := fun h => spL_get (by omega)
      have hx : ((0 ≤ (l.getD i (0, 0)).1 ∧ (l.getD i (0, 0)).1 < 18446744073709551616) ∧ 0 ≤ (l.getD i (0, 0)).2 ∧ (l.getD i (0, 0)).2 < 18446744073709551616) := hok _ (by simp [List.getD, hlt])
      have hp : ((0 ≤ (l.getD (i - 1) (0, 0)).1 ∧ (l.getD (i - 1) (0, 0)).1 < 18446744073709551616) ∧ 0 ≤ (l.getD (i - 1) (0, 0)).2 ∧ (l.getD (i - 1) (0, 0)).2 < 18446744073709551616) := hok _ (by simp [List.getD, (show i - 1 < l.length by omega)])
      have hbad := right_no (most := topR w) hlt
      have hgood : okI (topR w) l i = true → ∀ j, j < i + 1 → okI (topR w) l j = true := fun h j hj => by
        rcases Nat.lt_succ_iff_lt_or_eq.1 hj with h1 | h1
        · exact hno j h1
        · rw [h1]; exact h
      have hdef : okI (topR w) l i = (decide ((l.getD i (0, 0)).1 ≤ (l.getD i (0, 0)).2) && decide ((l.getD i (0, 0)).2 ≤ topR w) && (i == 0 || decide ((l.getD (i - 1) (0, 0)).2 + 2 ≤ (l.getD i (0, 0)).1))) := rfl
      rw [hdef] at hbad hgood
      clear hdef hno
      generalize l.getD i (0, 0) = s at *
      generalize l.getD (i - 1) (0, 0) = p at *
      obtain ⟨s1, s2⟩ := s
      obtain ⟨p1, p2⟩ := p
      simp only at hg hg2 hx hp hbad hgood
      have w1 : IntKind.i64.wrap ((i : Int) + 1) = ((i + 1 : Nat) : Int) := by rw [wrap_id (by omega) (by omega)]; simp
      by_cases h1 : s1 ≤ s2
      · have h1' : ¬ s2 < s1 := by omega
        by_cases h2 : s2 ≤ topR w
        · have h2' : ¬ topR w < s2 := by omega
          by_cases h3 : i = 0
          · have h3n : ¬ (0 < i) := by omega
            have h3i : ¬ ((0 : Int) < i) := by omega
            simp [-wrap_i64, hlt2, hg, h1', h2', w1, h3n, h3i]
            exact AGo.again (ih (i + 1) (by omega) ⟨by omega, hgood (by simp [h1, h2, h3])⟩) (by simp) (by simp)
          · have h3i : (0 : Int) < i := by omega
            have h3n : 0 < i := by omega
            have w2 : IntKind.i64.wrap ((i : Int) - 1) = ((i - 1 : Nat) : Int) := by rw [wrap_id (by omega) (by omega)]; omega
            have hg2 := hg2 h3n
            have e3 : (i == 0) = false := by simpa using h3
            by_cases h4 : s1 ≤ p2
            · simp [-wrap_i64, -wrap_u64, hlt2, hg, hg2, h1', h2', w1, w2, h3i, h3n, h4]
              exact AGo.ret_is hP Try.func8 hL hw (by simp [Try.f8] <;> rfl) rfl rfl (by rw [hbad (by simp [h1, h2, e3, h3]; omega)])
            · have w3 : IntKind.u64.wrap (s1 - p2) = s1 - p2 := wrap_id64 (by omega) (by omega)
              by_cases h5 : s1 - p2 < 2
              · simp [-wrap_i64, -wrap_u64, hlt2, hg, hg2, h1', h2', w1, w2, w3, h3i, h3n, h4, h5]
                exact AGo.ret_is hP Try.func8 hL hw (by simp [Try.f8] <;> rfl) rfl rfl (by rw [hbad (by simp [h1, h2, e3, h3]; omega)])
              · simp [-wrap_i64, -wrap_u64, hlt2, hg, hg2, h1', h2', w1, w2, w3, h3i, h3n, h4, h5]
                exact AGo.again (ih (i + 1) (by omega) ⟨by omega, hgood (by simp [h1, h2, e3, h3]; omega)⟩) (by simp) (by simp)
        · have h2' : topR w < s2 := by omega
          simp [-wrap_i64, hlt2, hg, h1', h2', w1]
          exact AGo.ret_is hP Try.func8 hL hw (by simp [Try.f8] <;> rfl) rfl rfl (by rw [hbad (by simp [h2])])
      · have h1' : s2 < s1 := by omega
        simp [-wrap_i64, hlt2, hg, h1', w1]
        exact AGo.ret_is hP Try.func8 hL hw (by simp [Try.f8] <;> rfl) rfl rfl (by rw [hbad (by simp [h1])])
    · have hil : i = l.length := by omega
      subst hil
      simp
      exact AGo.again (hex l.length (right_all hno)) (by simp) (by simp)
  · have h0' : okW w = false := by simpa using h0
    simp [h0']
    exact AGo.ret_is hP Try.func8 hL hw (by simp [Try.f8] <;> rfl) rfl rfl (by simp [h0'])

theorem AGo.ret_R {c : Ctx} {f : FuncId} {k : List Item} {σ : AState} {R : AV → List AObj → Prop} {P : Program} {fn : Func} {L M : List AObj} {r : AV} (hP : c.P = P) (hf : P.funcs[f]? = some fn) (h0 : c.L0 = L) (hwf : WFL L)
    (hr : resAV P σ fn.results.toList = some r) (hL : σ.L = L ++ M) (hcl : r.closed = true) (hR : R r L) : AGo c f (.code .ret :: k) σ R := by
  subst hP h0
  exact AGo.ret_of hf hr (Exports.plain hL hwf hcl hR)

theorem in_run (s : Sp) (x : Int) (L : List AObj) (hw : WFL L) : ACall Try.prog 32 [.agg [.int .u64 s.1, .int .u64 s.2], .ref (.int .u64 x)] L (Is (.bool (decide (s.1 ≤ x) && decide (x ≤ s.2))) L) := by
  refine ACall.walk (by kernel_rfl) Try.func32 rfl rfl rfl rfl [] (by kernel_rfl) kp32 100 fun c hP hn hL => ?_
  by_cases h1 : s.1 ≤ x
  · simp [Try.f32, h1]
    exact AGo.ret_isM hP Try.func32 hL hw (by simp [Try.f32] <;> rfl) rfl rfl (by simp)
  · simp [Try.f32, h1]
    exact AGo.ret_isM hP Try.func32 hL hw (by simp [Try.f32] <;> rfl) rfl rfl (by simp)

set_option maxRecDepth 4000 in
theorem index_run (l : List Sp) (hl : l.length < 1099511627776) (x : Int) (L : List AObj) (hw : WFL L) :
    ACall Try.prog 37 [.slice (spL l), .fn 32 [.ref (.int .u64 x)]] L (fun r L' => ∃ n : Int, (0 ≤ n ↔ hasS l x = true) ∧ Is (.int .i64 n) L r L') := by
  refine ACall.walk (by kernel_rfl) Try.func37 rfl rfl rfl rfl [] (by kernel_rfl) kp37 100 fun c hP hn hL => ?_
  simp [Try.f37]
  refine AGo.loopE (α := Nat) (fun i => i ≤ l.length ∧ ∀ j, j < i → ¬ ((l.getD j (0, 0)).1 ≤ x ∧ x ≤ (l.getD j (0, 0)).2)) (fun i => hasS l x = false) (fun i => l.length - i) [0, 1, 7, 8]
    (fun i => [.slice (spL l), .fn 32 [.ref (.int .u64 x)], .int .i64 l.length, .int .i64 i])
    (fun _ => L) 0 (by kernel_rfl) (by kernel_rfl) (by kernel_rfl) (by simp) (by simp) (by simp) ?_ ?_
  rotate_left
  · intro i hi
    refine AGo.go hP hn rfl [] kp37 100 (by kernel_rfl) ?_
    simp
    exact AGo.ret_R (M := []) hP Try.func37 hL hw (by simp [Try.f37] <;> rfl) (by simp) rfl ⟨-1, by simp [hi], rfl, rfl⟩
  intro i y z hR ⟨hi, hno⟩ ih hex
  refine AGo.go hP hn rfl [100000] kp37 100 (hR.ok _) ?_
  by_cases hlt : i < l.length
  · have hlt2 : (i : Int) < l.length := by omega
    have hg := spL_get hlt
    have ha := has_at (x := x) hlt
    have hn2 : ¬ ((l.getD i (0, 0)).1 ≤ x ∧ x ≤ (l.getD i (0, 0)).2) → ∀ j, j < i + 1 → ¬ ((l.getD j (0, 0)).1 ≤ x ∧ x ≤ (l.getD j (0, 0)).2) := fun h j hj => by
      rcases Nat.lt_succ_iff_lt_or_eq.1 hj with h1 | h1
      · exact hno j h1
      · rw [h1]; exact h
    generalize l.getD i (0, 0) = s at *
    have w1 : IntKind.i64.wrap ((i : Int) + 1) = ((i + 1 : Nat) : Int) := by rw [wrap_id (by omega) (by omega)]; simp
    simp [-wrap_i64, hlt2, hg]
    refine AOps.callIs hP hn rfl [100000] 100 (in_run s x _ (by simp [hw, hw.append_closed])) (by simp) (by simp <;> rfl) (todoOk_mono _ _ (by simp only [todoOk, hR.y, hR.z, hR.k, Bool.and_self, Bool.and_true] <;> kernel_rfl)) ?_
    by_cases h1 : s.1 ≤ x ∧ x ≤ s.2
    · simp [-wrap_i64, h1.1, h1.2]
      exact AGo.ret_R (M := []) hP Try.func37 hL hw (by simp [Try.f37] <;> rfl) (by simp) rfl ⟨i, by simp [ha h1.1 h1.2], rfl, rfl⟩
    · have h1' : (decide (s.1 ≤ x) && decide (x ≤ s.2)) = false := by simpa using h1
      simp only [h1']
      simp [-wrap_i64, w1]
      exact AGo.again (ih (i + 1) (by omega) ⟨by omega, hn2 h1⟩) (by simp) (by simp)
  · have hil : i = l.length := by omega
    subst hil
    simp
    exact AGo.again (hex l.length (has_none hno)) (by simp) (by simp)

theorem contains_run (l : List Sp) (hl : l.length < 1099511627776) (x : Int) (L : List AObj) (hw : WFL L) :
    ACall Try.prog 31 [.slice (spL l), .fn 32 [.ref (.int .u64 x)]] L (Is (.bool (hasS l x)) L) := by
  refine ACall.walk (by kernel_rfl) Try.func31 rfl rfl rfl rfl [] (by kernel_rfl) kp31 100 fun c hP hn hL => ?_
  simp [Try.f31]
  refine AOps.callG hP hn rfl [] 100 (index_run l hl x _ (by simp [hw, hw.append_closed])) (by simp) (by simp <;> rfl) (by kernel_rfl) ?_
  rintro r L' ⟨n, hn0, rfl, rfl⟩
  have e : decide (0 ≤ n) = hasS l x := by rw [Bool.eq_iff_iff]; simpa using hn0
  simp [e]
  exact AGo.ret_isM (M := []) hP Try.func31 hL hw (by simp [Try.f31] <;> rfl) (by simp) rfl rfl

theorem has_run (l : List Sp) (hl : l.length < 1099511627776) (x : Int) (L : List AObj) (hw : WFL L) : ACall Try.prog 15 [.slice (spL l), .int .u64 x] L (Is (.bool (hasS l x)) L) := by
  refine ACall.walk (by kernel_rfl) Try.func15 rfl rfl rfl rfl [] (by kernel_rfl) kp15 2 fun c hP hn hL => ?_
  simp [Try.f15]
  refine AGo.freeze L.length (by simp; rfl) ?_
  refine AGo.keep [0, 3, 4] ?_
  simp [frzL]
  refine AGo.go hP hn rfl [] kp15 100 (by kernel_rfl) ?_
  simp
  refine AOps.callIs hP hn rfl [] 100 (contains_run l hl x _ (by simp [hw, hw.append_closed])) (by simp) (by simp <;> rfl) (by kernel_rfl) ?_
  simp
  exact AGo.ret_isM hP Try.func15 hL hw (by simp [Try.f15] <;> rfl) rfl rfl rfl

end Go.Proofs.Ytpneikbihcoaaab.Vm

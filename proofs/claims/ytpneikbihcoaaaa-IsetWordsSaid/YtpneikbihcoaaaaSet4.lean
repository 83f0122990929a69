/- Words, and how many numbers are in a set. -/
import Derived.Test.YtpneikbihcoaaaaSet3
namespace Go.Proofs.Ytpneikbihcoaaaa.Vm
set_option linter.unusedVariables false

/-! ### Words -/

theorem norm32 (l : List Sp) : normW 32 l = normS 4294967295 l := rfl

theorem high_form {l : List Sp} (h : OkS l) : Form topS ((normW 32 l).map highS) := by
  have hf := norm_form 4294967295 l
  have h0 := norm_low (most := 4294967295) (okS_low h)
  rw [norm32]
  refine ⟨List.pairwise_map.2 (hf.1.imp fun {s t} hst => by simp only [highS]; omega), fun u hu => ?_⟩
  obtain ⟨s, hs, rfl⟩ := List.mem_map.1 hu
  have := hf.2 s hs
  simp only [highS, topS]; omega
theorem under_form {l : List Sp} {h : Int} (hh : 0 ≤ h ∧ h < 4294967296) : Form topS ((normW 32 l).map (underS h)) := by
  have hf := norm_form 4294967295 l
  rw [norm32]
  refine ⟨List.pairwise_map.2 (hf.1.imp fun {s t} hst => by simp only [underS]; omega), fun u hu => ?_⟩
  obtain ⟨s, hs, rfl⟩ := List.mem_map.1 hu
  have := hf.2 s hs
  simp only [underS, topS]; omega
theorem okS_high {l : List Sp} (h : OkS l) : OkS ((normW 32 l).map highS) := by
  refine okS_of (high_form h) (by decide) fun x hx => ?_
  obtain ⟨u, hu, h1, _⟩ := hx
  obtain ⟨s, hs, rfl⟩ := List.mem_map.1 hu
  have := norm_low (most := 4294967295) (okS_low h) s hs
  simp only [highS] at h1; omega
theorem okS_under {l : List Sp} (hl : OkS l) {h : Int} (hh : 0 ≤ h ∧ h < 4294967296) : OkS ((normW 32 l).map (underS h)) := by
  refine okS_of (under_form hh) (by decide) fun x hx => ?_
  obtain ⟨u, hu, h1, _⟩ := hx
  obtain ⟨s, hs, rfl⟩ := List.mem_map.1 hu
  have := norm_low (most := 4294967295) (okS_low hl) s hs
  simp only [underS] at h1; omega

theorem has_high {l : List Sp} {x : Int} (hx : 0 ≤ x ∧ x < 18446744073709551616) : hasS ((normW 32 l).map highS) x = hasS l (x / 4294967296) := by
  rw [Bool.eq_iff_iff, hasS_iff, hasS_iff]
  have hm : MemS ((normW 32 l).map highS) x ↔ MemS (normW 32 l) (x / 4294967296) := by
    constructor
    · rintro ⟨u, hu, h1, h2⟩
      obtain ⟨s, hs, rfl⟩ := List.mem_map.1 hu
      simp only [highS] at h1 h2
      exact ⟨s, hs, by omega, by omega⟩
    · rintro ⟨s, hs, h1, h2⟩
      exact ⟨highS s, List.mem_map.2 ⟨s, hs, rfl⟩, by simp only [highS]; omega, by simp only [highS]; omega⟩
  rw [hm, norm32, norm_mem]
  exact ⟨fun h => h.1, fun h => ⟨h, by omega⟩⟩

theorem has_under {l : List Sp} {h x : Int} (ho : OkS l) (hx : 0 ≤ x ∧ x < 18446744073709551616) : hasS ((normW 32 l).map (underS h)) x = (x / 4294967296 == h && hasS l (x % 4294967296)) := by
  rw [Bool.eq_iff_iff, Bool.and_eq_true, hasS_iff, hasS_iff, beq_iff_eq]
  have hm : MemS ((normW 32 l).map (underS h)) x ↔ x / 4294967296 = h ∧ MemS (normW 32 l) (x % 4294967296) := by
    constructor
    · rintro ⟨u, hu, h1, h2⟩
      obtain ⟨s, hs, rfl⟩ := List.mem_map.1 hu
      have h3 := norm_low (most := 4294967295) (okS_low ho) s hs
      have h4 := (norm_form 4294967295 l).2 s hs
      simp only [underS] at h1 h2
      exact ⟨by omega, s, hs, by omega, by omega⟩
    · rintro ⟨h5, s, hs, h1, h2⟩
      exact ⟨underS h s, List.mem_map.2 ⟨s, hs, rfl⟩, by simp only [underS]; omega, by simp only [underS]; omega⟩
  rw [hm, norm32, norm_mem]
  exact ⟨fun g => ⟨g.1, g.2.1⟩, fun g => ⟨g.1, g.2, by omega⟩⟩

/-! ### How many -/

def cntP (p : Int → Bool) : Nat → Int
  | 0 => 0
  | n + 1 => cntP p n + (if p n = true then 1 else 0)

theorem cntP_congr {p q : Int → Bool} : ∀ n : Nat, (∀ k : Nat, k < n → p k = q k) → cntP p n = cntP q n
  | 0, _ => rfl
  | n + 1, h => by simp only [cntP]; rw [cntP_congr n fun k hk => h k (by omega), h n (by omega)]
theorem cntP_and_or (p q : Int → Bool) : ∀ n, cntP (fun k => p k && q k) n + cntP (fun k => p k || q k) n = cntP p n + cntP q n
  | 0 => rfl
  | n + 1 => by
    have := cntP_and_or p q n
    simp only [cntP]
    by_cases hp : p n = true <;> by_cases hq : q n = true <;> simp [hp, hq] <;> omega
theorem cntP_none {p : Int → Bool} : ∀ n : Nat, (∀ k : Nat, k < n → p k = false) → cntP p n = 0
  | 0, _ => rfl
  | n + 1, h => by simp only [cntP]; rw [cntP_none n fun k hk => h k (by omega), h n (by omega)]; rfl
theorem cntP_span (lo hi : Int) (h0 : 0 ≤ lo) (h1 : lo ≤ hi) : ∀ n : Nat, cntP (fun k => decide (lo ≤ k) && decide (k ≤ hi)) n = if (n : Int) ≤ lo then 0 else if (n : Int) ≤ hi + 1 then n - lo else hi + 1 - lo
  | 0 => by simp only [cntP]; rw [if_pos (by omega)]
  | n + 1 => by
    simp only [cntP]
    rw [cntP_span lo hi h0 h1 n]
    by_cases a : lo ≤ n
    · by_cases b : (n : Int) ≤ hi
      · simp only [a, b, decide_true, Bool.and_self, if_true]
        (repeat' split) <;> omega
      · simp only [b, decide_false, Bool.and_false, Bool.false_eq_true, if_false]
        (repeat' split) <;> omega
    · simp only [a, decide_false, Bool.false_and, Bool.false_eq_true, if_false]
      (repeat' split) <;> omega

def sumS : List Sp → Int
  | [] => 0
  | s :: r => (s.2 - s.1 + 1) + sumS r

theorem sum_cnt {most : Int} (N : Nat) (hN : most < N) : ∀ F : List Sp, Form most F → (∀ s ∈ F, 0 ≤ s.1) → sumS F = cntP (hasS F) N
  | [], _, _ => by
    simp only [sumS]
    rw [cntP_none N fun k _ => rfl]
  | s :: r, h, h0 => by
    have hs := h.head
    have hs0 := h0 s (by simp)
    have e := cntP_and_or (fun k => decide (s.1 ≤ k) && decide (k ≤ s.2)) (hasS r) N
    have e1 : cntP (fun k => (decide (s.1 ≤ k) && decide (k ≤ s.2)) && hasS r k) N = 0 := cntP_none N fun k _ => by
      by_cases hr : hasS r k = true
      · have := h.lt (hasS_iff.1 hr)
        simp only [Bool.and_eq_false_iff, decide_eq_false_iff_not]
        left; right; omega
      · simp [hr]
    have e2 : cntP (fun k => (decide (s.1 ≤ k) && decide (k ≤ s.2)) || hasS r k) N = cntP (hasS (s :: r)) N := cntP_congr N fun k _ => by simp [hasS]
    rw [e1, e2, Int.zero_add, cntP_span s.1 s.2 hs0 hs.1] at e
    rw [e, ← sum_cnt N hN r h.tail fun t ht => h0 t (by simp [ht])]
    simp only [sumS]
    (repeat' split) <;> omega

def sumN : Int → List Sp → Int
  | n, [] => n
  | n, s :: r => sumN ((n + (s.2 - s.1 + 1)) % 18446744073709551616) r

theorem whole_one {F : List Sp} {s : Sp} (h : Form topS F) (h0 : OkS F) (hs : s ∈ F) (h1 : s.1 = 0) (h2 : s.2 = 18446744073709551615) : F = [s] := by
  refine form_ext h (most' := topS) ⟨by simp, fun t ht => by simp at ht; subst ht; exact ⟨by omega, by unfold topS; omega⟩⟩ fun x => ?_
  rw [MemS.cons]
  constructor
  · intro hx
    have := h.le hx
    have := okS_mem h0 hx
    unfold topS at *
    left; omega
  · rintro (hx | hx)
    · exact ⟨s, hs, hx.1, hx.2⟩
    · exact absurd hx MemS.nil

theorem count_sum : ∀ (F : List Sp) (n : Int), (∀ s ∈ F, ¬ (s.1 = 0 ∧ s.2 = 18446744073709551615)) → countN n F = sumN n F
  | [], _, _ => rfl
  | s :: r, n, h => by
    simp only [countN, sumN]
    rw [if_neg (h s (by simp)), count_sum r _ fun t ht => h t (by simp [ht])]

theorem count_form {F : List Sp} (h : Form topS F) (h0 : OkS F) : countN 0 F = if F = [(0, 18446744073709551615)] then 18446744073709551615 else sumN 0 F := by
  split
  · rename_i e; rw [e]; rfl
  · rename_i e
    refine count_sum F 0 fun s hs hc => e ?_
    rw [whole_one h h0 hs hc.1 hc.2]
    congr 1
    exact Prod.ext hc.1 hc.2

theorem sumN_sum : ∀ (F : List Sp) (n : Int), 0 ≤ n → (∀ s ∈ F, s.1 ≤ s.2) → n + sumS F < 18446744073709551616 → sumN n F = n + sumS F
  | [], n, _, _, _ => by simp [sumN, sumS]
  | s :: r, n, hn, h, hb => by
    have hs := h s (by simp)
    have hpos : 0 ≤ sumS r := by
      have : ∀ l : List Sp, (∀ s ∈ l, s.1 ≤ s.2) → 0 ≤ sumS l := fun l => by
        induction l with
        | nil => intro _; simp [sumS]
        | cons t l ih => intro hl; simp only [sumS]; have := ih fun u hu => hl u (by simp [hu]); have := hl t (by simp); omega
      exact this r fun t ht => h t (by simp [ht])
    simp only [sumN, sumS] at hb ⊢
    rw [show (n + (s.2 - s.1 + 1)) % 18446744073709551616 = n + (s.2 - s.1 + 1) by omega, sumN_sum r _ (by omega) (fun t ht => h t (by simp [ht])) (by omega)]
    omega

theorem cntP_le (p : Int → Bool) : ∀ n : Nat, 0 ≤ cntP p n ∧ cntP p n ≤ n
  | 0 => ⟨Int.le_refl _, Int.le_refl _⟩
  | n + 1 => by
    have := cntP_le p n
    simp only [cntP]
    split <;> omega

theorem Form.up {m m' : Int} {F : List Sp} (h : Form m F) (hm : m ≤ m') : Form m' F := ⟨h.1, fun s hs => by have := h.2 s hs; omega⟩

/-- A set of 32 bits, counted. -/
theorem count32 (N : Nat) (hN : N = 4294967296) {F : List Sp} (h : Form 4294967295 F) (h0 : OkS F) : countN 0 (normW 64 F) = cntP (hasS F) N := by
  have hu : Form topS F := h.up (by decide)
  rw [normW64, norm_fix hu, count_sum F 0 fun s hs hc => by have := (h.2 s hs).2; omega]
  have hc := sum_cnt N (by omega) F h (okS_low h0)
  have hb := cntP_le (hasS F) N
  rw [sumN_sum F 0 (Int.le_refl _) (fun s hs => (h.2 s hs).1) (by omega)]
  omega

theorem count_both {a b : List Sp} (ha : OkS a) (hb : OkS b) :
    (countN 0 (normW 64 (andS (normW 32 a) (normW 32 b))) + countN 0 (normW 64 (orS (normW 32 a) (normW 32 b)))) = countN 0 (normW 64 (normW 32 a)) + countN 0 (normW 64 (normW 32 b)) := by
  have oa : OkS (normW 32 a) := okS_norm ha
  have ob : OkS (normW 32 b) := okS_norm hb
  have fa : Form 4294967295 (normW 32 a) := norm_form _ _
  have fb : Form 4294967295 (normW 32 b) := norm_form _ _
  generalize normW 32 a = x at *
  generalize normW 32 b = y at *
  have f1 : Form 4294967295 (andS x y) := ⟨(and_form x y).1, fun s hs => by
    have h1 := (and_form x y).2 s hs
    exact ⟨h1.1, fa.le (and_mem.1 ⟨s, hs, h1.1, Int.le_refl _⟩).1.1⟩⟩
  have f2 : Form 4294967295 (orS x y) := ⟨(or_form x y).1, fun s hs => by
    have h1 := (or_form x y).2 s hs
    exact ⟨h1.1, (or_mem.1 ⟨s, hs, h1.1, Int.le_refl _⟩).1.elim fa.le fb.le⟩⟩
  obtain ⟨N, hN⟩ : ∃ N : Nat, N = 4294967296 := ⟨_, rfl⟩
  rw [count32 N hN f1 (okS_and oa), count32 N hN f2 (okS_or oa ob), count32 N hN fa oa, count32 N hN fb ob, ← cntP_and_or (hasS x) (hasS y) N]
  congr 1
  · exact cntP_congr _ fun k hk => has_and ⟨by omega, by omega⟩
  · exact cntP_congr _ fun k hk => has_or ⟨by omega, by omega⟩

end Go.Proofs.Ytpneikbihcoaaaa.Vm

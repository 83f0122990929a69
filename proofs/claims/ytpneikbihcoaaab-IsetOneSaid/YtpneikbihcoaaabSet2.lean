/- The algebra of sets. -/
import Derived.Test.YtpneikbihcoaaabIset8
import Derived.Test.YtpneikbihcoaaabIset3
namespace Go.Proofs.Ytpneikbihcoaaab.Vm

theorem most64 : mostS 64 = topS := rfl
theorem normW64 (l : List Sp) : normW 64 l = normS topS l := rfl
theorem notW64 (l : List Sp) : notW 64 l = notS topS l := rfl

theorem okS_low {l : List Sp} (h : OkS l) : ∀ s ∈ l, 0 ≤ s.1 := fun s hs => (h s hs).1.1
theorem okS_mem {l : List Sp} (h : OkS l) {x : Int} (hx : MemS l x) : 0 ≤ x := by
  obtain ⟨s, hs, h1, _⟩ := hx
  have := (h s hs).1.1; omega
theorem okS_of {most : Int} {l : List Sp} (hf : Form most l) (hm : most < 18446744073709551616) (h : ∀ x, MemS l x → 0 ≤ x) : OkS l := fun s hs => by
  have h1 := hf.2 s hs
  have h2 := h s.1 ⟨s, hs, Int.le_refl _, h1.1⟩
  omega

theorem okS_and {a b : List Sp} (ha : OkS a) : OkS (andS a b) := okS_of (and_form a b) (by decide) fun x hx => okS_mem ha (and_mem.1 hx).1.1
theorem or_form (a b : List Sp) : Form topS (orS a b) := norm_form _ _
theorem or_mem {a b : List Sp} {x : Int} : MemS (orS a b) x ↔ (MemS a x ∨ MemS b x) ∧ x ≤ topS := by rw [orS, norm_mem, MemS.append]
theorem okS_or {a b : List Sp} (ha : OkS a) (hb : OkS b) : OkS (orS a b) := okS_of (or_form a b) (by decide) fun x hx => (or_mem.1 hx).1.elim (okS_mem ha) (okS_mem hb)
theorem okS_not {l : List Sp} (h : OkS l) : OkS (notS topS l) := okS_of (not_form (by decide) (okS_low h)) (by decide) fun x hx => ((not_mem (by decide) (okS_low h)).1 hx).1.1

theorem andN_len : ∀ (n : Nat) (x y : List Sp), (andN n x y).length ≤ n
  | 0, _, _ => by simp [andN]
  | n + 1, [], y => by simp [andN]
  | n + 1, s :: x, [] => by simp [andN]
  | n + 1, s :: x, t :: y => by
    have h1 := andN_len n x (t :: y)
    have h2 := andN_len n (s :: x) y
    unfold andN
    split
    · simp only [List.length_cons]; split <;> omega
    · split <;> omega
theorem and_len (a b : List Sp) : (andS a b).length ≤ a.length + b.length := by
  have h1 := andN_len ((normS topS a).length + (normS topS b).length) (normS topS a) (normS topS b)
  have h2 := norm_len topS a
  have h3 := norm_len topS b
  unfold andS; omega
theorem or_len (a b : List Sp) : (orS a b).length ≤ a.length + b.length := by
  have := norm_len topS (a ++ b)
  simpa [orS] using this
theorem notN_len (most : Int) : ∀ (l : List Sp) (next : Int), (notN most next l).length ≤ l.length + 1
  | [], _ => by simp [notN]
  | s :: r, next => by
    have := notN_len most r (s.2 + 1)
    unfold notN
    split
    · split <;> simp
    · split <;> simp <;> omega
theorem not_len (most : Int) (l : List Sp) : (notS most l).length ≤ l.length + 1 := by
  have h1 := notN_len most (normS most l) 0
  have h2 := norm_len most l
  unfold notS; omega

theorem same_eq {a b : List Sp} (h : a = b) : sameS a b = true := by simp [sameS, h]

section
variable {a b c : List Sp} (ha : OkS a) (hb : OkS b) (hc : OkS c)
include ha hb in
theorem morgan : notS topS (orS a b) = andS (notS topS a) (notS topS b) := by
  refine form_ext (not_form (by decide) (okS_low (okS_or ha hb))) (and_form _ _) fun x => ?_
  rw [not_mem (by decide) (okS_low (okS_or ha hb)), and_mem, not_mem (by decide) (okS_low ha), not_mem (by decide) (okS_low hb), or_mem]
  constructor
  · rintro ⟨h1, h2⟩
    exact ⟨⟨⟨h1, fun h => h2 ⟨.inl h, h1.2⟩⟩, h1, fun h => h2 ⟨.inr h, h1.2⟩⟩, h1.2⟩
  · rintro ⟨⟨⟨h1, h2⟩, _, h3⟩, _⟩
    exact ⟨h1, fun h => h.1.elim h2 h3⟩
theorem distrib : andS (orS a b) c = orS (andS a c) (andS b c) := by
  refine form_ext (and_form _ _) (or_form _ _) fun x => ?_
  rw [and_mem, or_mem, or_mem, and_mem, and_mem]
  constructor
  · rintro ⟨⟨⟨h1, h2⟩, h3⟩, h4⟩
    exact ⟨h1.elim (fun h => .inl ⟨⟨h, h3⟩, h2⟩) (fun h => .inr ⟨⟨h, h3⟩, h2⟩), h2⟩
  · rintro ⟨h1, h2⟩
    rcases h1 with h1 | h1
    · exact ⟨⟨⟨.inl h1.1.1, h2⟩, h1.1.2⟩, h2⟩
    · exact ⟨⟨⟨.inr h1.1.1, h2⟩, h1.1.2⟩, h2⟩
include ha in
theorem not_not_set : notS topS (notS topS a) = normS topS a := by
  refine form_ext (not_form (by decide) (okS_low (okS_not ha))) (norm_form _ _) fun x => ?_
  rw [not_mem (by decide) (okS_low (okS_not ha)), not_mem (by decide) (okS_low ha), norm_mem]
  constructor
  · rintro ⟨h1, h2⟩
    exact ⟨Classical.byContradiction fun h => h2 ⟨h1, h⟩, h1.2⟩
  · rintro ⟨h1, h2⟩
    exact ⟨⟨okS_mem ha h1, h2⟩, fun h => h.2 h1⟩
theorem or_comm_set : orS a b = orS b a :=
  form_ext (or_form _ _) (or_form _ _) fun x => by rw [or_mem, or_mem, Or.comm]
theorem absorb : andS a (orS a b) = normS topS a := by
  refine form_ext (and_form _ _) (norm_form _ _) fun x => ?_
  rw [and_mem, or_mem, norm_mem]
  constructor
  · rintro ⟨⟨h1, _⟩, h2⟩; exact ⟨h1, h2⟩
  · rintro ⟨h1, h2⟩; exact ⟨⟨h1, .inl h1, h2⟩, h2⟩
include ha in
theorem and_not_set : andS a (notS topS a) = [] := by
  refine form_ext (and_form _ _) (most' := 0) (by simp [Form]) fun x => ?_
  rw [and_mem, not_mem (by decide) (okS_low ha)]
  constructor
  · rintro ⟨⟨h1, _, h2⟩, _⟩; exact absurd h1 h2
  · exact fun h => absurd h MemS.nil
end

end Go.Proofs.Ytpneikbihcoaaab.Vm

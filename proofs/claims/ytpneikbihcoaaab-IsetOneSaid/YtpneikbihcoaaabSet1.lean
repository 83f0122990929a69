/- Sets of numbers by their spans: the plain law. -/
import Derived.Test.YtpneikbihcoaaabVm27
namespace Go.Proofs.Ytpneikbihcoaaab.Vm

abbrev Sp := Int × Int

def hasS (l : List Sp) (x : Int) : Bool := l.any fun s => decide (s.1 ≤ x) && decide (x ≤ s.2)
def MemS (l : List Sp) (x : Int) : Prop := ∃ s ∈ l, s.1 ≤ x ∧ x ≤ s.2

theorem hasS_iff {l : List Sp} {x : Int} : hasS l x = true ↔ MemS l x := by
  simp [hasS, MemS, List.any_eq_true]

theorem MemS.nil {x : Int} : ¬ MemS [] x := by rintro ⟨s, h, _⟩; cases h
theorem MemS.cons {s : Sp} {l : List Sp} {x : Int} : MemS (s :: l) x ↔ (s.1 ≤ x ∧ x ≤ s.2) ∨ MemS l x := by simp [MemS]
theorem MemS.append {l m : List Sp} {x : Int} : MemS (l ++ m) x ↔ MemS l x ∨ MemS m x := by
  simp only [MemS, List.mem_append]
  constructor
  · rintro ⟨s, h | h, h2⟩
    · exact .inl ⟨s, h, h2⟩
    · exact .inr ⟨s, h, h2⟩
  · rintro (⟨s, h, h2⟩ | ⟨s, h, h2⟩)
    · exact ⟨s, .inl h, h2⟩
    · exact ⟨s, .inr h, h2⟩
theorem MemS.reverse {l : List Sp} {x : Int} : MemS l.reverse x ↔ MemS l x := by simp [MemS]
theorem MemS.congr {l m : List Sp} (h : ∀ s, s ∈ l ↔ s ∈ m) {x : Int} : MemS l x ↔ MemS m x := by simp only [MemS, h]

/-- A set's one form. -/
def Form (most : Int) (l : List Sp) : Prop := l.Pairwise (fun s t => s.2 + 1 < t.1) ∧ ∀ s ∈ l, s.1 ≤ s.2 ∧ s.2 ≤ most

theorem Form.tail {most : Int} {s : Sp} {r : List Sp} (h : Form most (s :: r)) : Form most r :=
  ⟨(List.pairwise_cons.1 h.1).2, fun t ht => h.2 t (List.mem_cons_of_mem _ ht)⟩
theorem Form.lt {most : Int} {s : Sp} {r : List Sp} (h : Form most (s :: r)) {x : Int} (hx : MemS r x) : s.2 + 1 < x := by
  obtain ⟨t, ht, h1, _⟩ := hx
  have := (List.pairwise_cons.1 h.1).1 t ht
  omega
theorem Form.head {most : Int} {s : Sp} {r : List Sp} (h : Form most (s :: r)) : s.1 ≤ s.2 ∧ s.2 ≤ most := h.2 s (by simp)
theorem Form.ge {most : Int} {s : Sp} {r : List Sp} (h : Form most (s :: r)) {x : Int} (hx : MemS (s :: r) x) : s.1 ≤ x := by
  rcases MemS.cons.1 hx with h1 | h1
  · exact h1.1
  · have := h.lt h1; have := h.head; omega
theorem Form.le {most : Int} {l : List Sp} (h : Form most l) {x : Int} (hx : MemS l x) : x ≤ most := by
  obtain ⟨t, ht, _, h1⟩ := hx
  have := (h.2 t ht).2
  omega

theorem form_ext {most most' : Int} : ∀ {a b : List Sp}, Form most a → Form most' b → (∀ x, MemS a x ↔ MemS b x) → a = b
  | [], [], _, _, _ => rfl
  | [], t :: q, _, hb, h => absurd ((h t.1).2 ⟨t, by simp, Int.le_refl _, hb.head.1⟩) MemS.nil
  | s :: r, [], ha, _, h => absurd ((h s.1).1 ⟨s, by simp, Int.le_refl _, ha.head.1⟩) MemS.nil
  | s :: r, t :: q, ha, hb, h => by
    have hs := ha.head
    have ht := hb.head
    have e1 : s.1 = t.1 := by
      have h1 := hb.ge ((h s.1).1 ⟨s, by simp, Int.le_refl _, hs.1⟩)
      have h2 := ha.ge ((h t.1).2 ⟨t, by simp, Int.le_refl _, ht.1⟩)
      omega
    have out : ∀ {m : Int} {s : Sp} {r : List Sp}, Form m (s :: r) → ¬ MemS (s :: r) (s.2 + 1) := fun hf hx => by
      rcases MemS.cons.1 hx with h1 | h1
      · omega
      · have := hf.lt h1; omega
    have e2 : s.2 = t.2 := by
      rcases Int.lt_trichotomy s.2 t.2 with h1 | h1 | h1
      · exact absurd ((h (s.2 + 1)).2 ⟨t, by simp, by omega, by omega⟩) (out ha)
      · exact h1
      · exact absurd ((h (t.2 + 1)).1 ⟨s, by simp, by omega, by omega⟩) (out hb)
    have e : s = t := Prod.ext e1 e2
    subst e
    congr 1
    refine form_ext ha.tail hb.tail fun x => ?_
    have hx := h x
    rw [MemS.cons, MemS.cons] at hx
    constructor
    · intro h1
      have := ha.lt h1
      rcases hx.1 (.inr h1) with h2 | h2
      · omega
      · exact h2
    · intro h1
      have := hb.lt h1
      rcases hx.2 (.inr h1) with h2 | h2
      · omega
      · exact h2

/-! ### Norm -/

/-- A span more, the last one first. -/
def stepN (most : Int) (acc : List Sp) (s : Sp) : List Sp :=
  if min s.2 most < s.1 then acc else
  match acc with
  | t :: r => if s.1 ≤ t.2 + 1 then (t.1, max t.2 (min s.2 most)) :: r else (s.1, min s.2 most) :: t :: r
  | [] => [(s.1, min s.2 most)]

def insS (s : Sp) : List Sp → List Sp
  | [] => [s]
  | t :: r => if s.1 ≤ t.1 then s :: t :: r else t :: insS s r
def isortS : List Sp → List Sp
  | [] => []
  | s :: r => insS s (isortS r)

theorem mem_insS (s u : Sp) : ∀ l : List Sp, u ∈ insS s l ↔ u = s ∨ u ∈ l
  | [] => by simp [insS]
  | t :: r => by
    unfold insS
    split
    · simp
    · simp only [List.mem_cons, mem_insS s u r]
      constructor
      · rintro (h | h | h) <;> simp [h]
      · rintro (h | h | h) <;> simp [h]
theorem mem_isortS (u : Sp) : ∀ l : List Sp, u ∈ isortS l ↔ u ∈ l
  | [] => by simp [isortS]
  | t :: r => by simp [isortS, mem_insS, mem_isortS u r]
theorem sorted_insS (s : Sp) : ∀ l : List Sp, l.Pairwise (fun a b => a.1 ≤ b.1) → (insS s l).Pairwise (fun a b => a.1 ≤ b.1)
  | [], _ => by simp [insS]
  | t :: r, h => by
    unfold insS
    split
    · rename_i hle
      rw [List.pairwise_cons] at h ⊢
      refine ⟨fun b hb => ?_, by rw [List.pairwise_cons]; exact h⟩
      rcases List.mem_cons.1 hb with h1 | h1
      · rw [h1]; exact hle
      · have := h.1 b h1; omega
    · rename_i hle
      rw [List.pairwise_cons] at h ⊢
      refine ⟨fun b hb => ?_, sorted_insS s r h.2⟩
      rcases (mem_insS s b r).1 hb with h1 | h1
      · rw [h1]; omega
      · exact h.1 b h1
theorem sorted_isortS : ∀ l : List Sp, (isortS l).Pairwise (fun a b => a.1 ≤ b.1)
  | [] => by simp [isortS]
  | s :: r => sorted_insS s _ (sorted_isortS r)

def normR (most : Int) (l : List Sp) : List Sp := l.foldl (stepN most) []
def normS (most : Int) (l : List Sp) : List Sp := (normR most (isortS l)).reverse

def FormR (most : Int) (l : List Sp) : Prop := l.Pairwise (fun s t => t.2 + 1 < s.1) ∧ ∀ s ∈ l, s.1 ≤ s.2 ∧ s.2 ≤ most
theorem FormR.rev {most : Int} {l : List Sp} (h : FormR most l) : Form most l.reverse :=
  ⟨List.pairwise_reverse.2 h.1, fun s hs => h.2 s (List.mem_reverse.1 hs)⟩

theorem step_form {most : Int} {acc : List Sp} {s : Sp} (h : FormR most acc) (hle : ∀ t, acc.head? = some t → t.1 ≤ s.1) :
    FormR most (stepN most acc s) ∧ (∀ t, (stepN most acc s).head? = some t → t.1 ≤ s.1) ∧ ∀ x, MemS (stepN most acc s) x ↔ MemS acc x ∨ (s.1 ≤ x ∧ x ≤ s.2 ∧ x ≤ most) := by
  unfold stepN
  split
  · rename_i hlt
    refine ⟨h, hle, fun x => ⟨.inl, ?_⟩⟩
    rintro (h1 | h1)
    · exact h1
    · omega
  · rename_i hge
    cases acc with
    | nil =>
      refine ⟨⟨by simp, fun u hu => ?_⟩, fun t ht => ?_, fun x => ?_⟩
      · simp at hu; subst hu; simp only; omega
      · simp at ht; subst ht; simp
      · rw [MemS.cons]
        constructor
        · rintro (h1 | h1)
          · right; simp only at h1; omega
          · exact absurd h1 MemS.nil
        · rintro (h1 | h1)
          · exact absurd h1 MemS.nil
          · left; simp only; omega
    | cons t r =>
      have ht := hle t rfl
      have h2 := h.2 t (by simp)
      have hp := List.pairwise_cons.1 h.1
      simp only
      split
      · rename_i hm
        refine ⟨⟨List.pairwise_cons.2 ⟨fun q hq => hp.1 q hq, hp.2⟩, fun u hu => ?_⟩, fun u hu => ?_, fun x => ?_⟩
        · rcases List.mem_cons.1 hu with h3 | h3
          · subst h3; simp only; omega
          · exact h.2 u (by simp [h3])
        · simp at hu; subst hu; exact ht
        · rw [MemS.cons, MemS.cons]
          simp only
          constructor
          · rintro (h3 | h3)
            · by_cases hx : x ≤ t.2
              · exact .inl (.inl ⟨h3.1, hx⟩)
              · right; omega
            · exact .inl (.inr h3)
          · rintro ((h3 | h3) | h3)
            · left; omega
            · exact .inr h3
            · left; omega
      · rename_i hm
        refine ⟨⟨List.pairwise_cons.2 ⟨fun q hq => ?_, h.1⟩, fun u hu => ?_⟩, fun u hu => ?_, fun x => ?_⟩
        · rcases List.mem_cons.1 hq with h3 | h3
          · rw [h3]; simp only; omega
          · have := hp.1 q h3; simp only; omega
        · rcases List.mem_cons.1 hu with h3 | h3
          · subst h3; simp only; omega
          · exact h.2 u h3
        · simp at hu; subst hu; simp
        · rw [MemS.cons]
          constructor
          · rintro (h3 | h3)
            · right; simp only at h3; omega
            · exact .inl h3
          · rintro (h3 | h3)
            · exact .inr h3
            · left; simp only; omega

theorem fold_form {most : Int} : ∀ (l acc : List Sp), FormR most acc → (∀ t, acc.head? = some t → ∀ s ∈ l, t.1 ≤ s.1) → l.Pairwise (fun a b => a.1 ≤ b.1) →
    FormR most (l.foldl (stepN most) acc) ∧ ∀ x, MemS (l.foldl (stepN most) acc) x ↔ MemS acc x ∨ (MemS l x ∧ x ≤ most)
  | [], acc, h, _, _ => ⟨h, fun x => ⟨.inl, fun h => h.elim id fun h => absurd h.1 MemS.nil⟩⟩
  | s :: l, acc, h, hle, hs => by
    obtain ⟨h1, h2, h3⟩ := step_form (s := s) h fun t ht => hle t ht s (by simp)
    have hs' := List.pairwise_cons.1 hs
    obtain ⟨g1, g2⟩ := fold_form l (stepN most acc s) h1 (fun t ht u hu => by have := h2 t ht; have := hs'.1 u hu; omega) hs'.2
    refine ⟨g1, fun x => ?_⟩
    rw [List.foldl_cons, g2, h3, MemS.cons]
    constructor
    · rintro ((h | h) | h)
      · exact .inl h
      · exact .inr ⟨.inl ⟨h.1, h.2.1⟩, h.2.2⟩
      · exact .inr ⟨.inr h.1, h.2⟩
    · rintro (h | ⟨h | h, h4⟩)
      · exact .inl (.inl h)
      · exact .inl (.inr ⟨h.1, h.2, h4⟩)
      · exact .inr ⟨h, h4⟩

theorem normR_form {most : Int} {l : List Sp} (hs : l.Pairwise (fun a b => a.1 ≤ b.1)) : Form most (normR most l).reverse ∧ ∀ x, MemS (normR most l).reverse x ↔ MemS l x ∧ x ≤ most := by
  obtain ⟨h1, h2⟩ := fold_form (most := most) l [] ⟨by simp, by simp⟩ (by simp) hs
  refine ⟨h1.rev, fun x => ?_⟩
  rw [MemS.reverse]
  unfold normR
  rw [h2]
  exact ⟨fun h => h.elim (fun h => absurd h MemS.nil) id, .inr⟩

theorem norm_form (most : Int) (l : List Sp) : Form most (normS most l) := (normR_form (sorted_isortS l)).1
theorem norm_mem {most : Int} {l : List Sp} {x : Int} : MemS (normS most l) x ↔ MemS l x ∧ x ≤ most := by
  rw [normS, (normR_form (sorted_isortS l)).2, MemS.congr fun s => mem_isortS s l]

/-- However the spans are sorted, the form is one. -/
theorem norm_sorted {most : Int} {l l' : List Sp} (hp : ∀ s, s ∈ l' ↔ s ∈ l) (hs : l'.Pairwise (fun a b => a.1 ≤ b.1)) : (normR most l').reverse = normS most l := by
  refine form_ext (normR_form hs).1 (norm_form most l) fun x => ?_
  rw [(normR_form hs).2, norm_mem, MemS.congr hp]

theorem norm_fix {most : Int} {l : List Sp} (h : Form most l) : normS most l = l :=
  form_ext (norm_form most l) h fun x => by
    rw [norm_mem]
    exact ⟨fun g => g.1, fun g => ⟨g, h.le g⟩⟩

theorem norm_low {most : Int} {l : List Sp} {b : Int} (h : ∀ s ∈ l, b ≤ s.1) : ∀ s ∈ normS most l, b ≤ s.1 := fun s hs => by
  have h1 := (norm_form most l).2 s hs
  obtain ⟨⟨t, ht, h2, _⟩, _⟩ := norm_mem.1 (⟨s, hs, Int.le_refl _, h1.1⟩ : MemS (normS most l) s.1)
  have := h t ht
  omega

theorem norm_len (most : Int) (l : List Sp) : (normS most l).length ≤ l.length := by
  have step : ∀ acc s, (stepN most acc s).length ≤ acc.length + 1 := fun acc s => by
    unfold stepN
    split
    · omega
    · cases acc with
      | nil => simp
      | cons t r => simp only; split <;> simp
  have fold : ∀ (l acc : List Sp), (l.foldl (stepN most) acc).length ≤ acc.length + l.length := fun l => by
    induction l with
    | nil => intro acc; simp
    | cons s l ih => intro acc; rw [List.foldl_cons]; have := ih (stepN most acc s); have := step acc s; simp only [List.length_cons]; omega
  have ins : ∀ (s : Sp) (l : List Sp), (insS s l).length = l.length + 1 := fun s l => by
    induction l with
    | nil => rfl
    | cons t r ih => unfold insS; split <;> simp [ih]
  have srt : ∀ l : List Sp, (isortS l).length = l.length := fun l => by
    induction l with
    | nil => rfl
    | cons t r ih => simp [isortS, ins, ih]
  have := fold (isortS l) []
  rw [srt] at this
  simpa [normS, normR] using this

/-! ### And -/

def andN : Nat → List Sp → List Sp → List Sp
  | n + 1, s :: x, t :: y =>
    if max s.1 t.1 ≤ min s.2 t.2 then (max s.1 t.1, min s.2 t.2) :: (if s.2 < t.2 then andN n x (t :: y) else andN n (s :: x) y)
    else if s.2 < t.2 then andN n x (t :: y) else andN n (s :: x) y
  | _, _, _ => []

theorem andN_nil1 (n : Nat) (y : List Sp) : andN n [] y = [] := by cases n <;> rfl
theorem andN_nil2 (n : Nat) (x : List Sp) : andN n x [] = [] := by cases n <;> cases x <;> rfl

theorem and_spec {most : Int} : ∀ (n : Nat) (x y : List Sp), x.length + y.length ≤ n → Form most x → Form most y →
    (∀ q, MemS (andN n x y) q ↔ MemS x q ∧ MemS y q) ∧ Form most (andN n x y)
  | n, [], y, _, _, _ => by
    rw [andN_nil1]
    exact ⟨fun q => ⟨fun h => absurd h MemS.nil, fun h => h.1⟩, by simp [Form]⟩
  | n, s :: x, [], _, _, _ => by
    rw [andN_nil2]
    exact ⟨fun q => ⟨fun h => absurd h MemS.nil, fun h => h.2⟩, by simp [Form]⟩
  | 0, s :: x, t :: y, h, _, _ => by simp at h
  | n + 1, s :: x, t :: y, h, hx, hy => by
    simp only [List.length_cons] at h
    have hs := hx.head
    have ht := hy.head
    unfold andN
    by_cases hlt : s.2 < t.2
    · obtain ⟨h1, h2⟩ := and_spec n x (t :: y) (by simp only [List.length_cons]; omega) hx.tail hy
      simp only [hlt, if_true]
      have hm : ∀ q, (MemS (s :: x) q ∧ MemS (t :: y) q) ↔ (max s.1 t.1 ≤ q ∧ q ≤ min s.2 t.2) ∨ MemS (andN n x (t :: y)) q := fun q => by
        rw [h1, MemS.cons (s := s)]
        constructor
        · rintro ⟨g1 | g1, g2⟩
          · have := hy.ge g2; left; omega
          · exact .inr ⟨g1, g2⟩
        · rintro (g | g)
          · exact ⟨.inl (by omega), MemS.cons.2 (.inl (by omega))⟩
          · exact ⟨.inr g.1, g.2⟩
      split
      · refine ⟨fun q => by rw [hm, MemS.cons], List.pairwise_cons.2 ⟨fun u hu => ?_, h2.1⟩, fun u hu => ?_⟩
        · have h3 := h2.2 u hu
          have := hx.lt ((h1 u.1).1 ⟨u, hu, Int.le_refl _, h3.1⟩).1
          simp only; omega
        · rcases List.mem_cons.1 hu with h3 | h3
          · subst h3; simp only; omega
          · exact h2.2 u h3
      · refine ⟨fun q => ?_, h2⟩
        rw [hm]
        exact ⟨.inr, fun g => g.elim (fun g => by omega) id⟩
    · obtain ⟨h1, h2⟩ := and_spec n (s :: x) y (by simp only [List.length_cons]; omega) hx hy.tail
      simp only [hlt, if_false]
      have hm : ∀ q, (MemS (s :: x) q ∧ MemS (t :: y) q) ↔ (max s.1 t.1 ≤ q ∧ q ≤ min s.2 t.2) ∨ MemS (andN n (s :: x) y) q := fun q => by
        rw [h1, MemS.cons (s := t)]
        constructor
        · rintro ⟨g1, g2 | g2⟩
          · have := hx.ge g1; left; omega
          · exact .inr ⟨g1, g2⟩
        · rintro (g | g)
          · exact ⟨MemS.cons.2 (.inl (by omega)), .inl (by omega)⟩
          · exact ⟨g.1, .inr g.2⟩
      split
      · refine ⟨fun q => by rw [hm, MemS.cons], List.pairwise_cons.2 ⟨fun u hu => ?_, h2.1⟩, fun u hu => ?_⟩
        · have h3 := h2.2 u hu
          have := hy.lt ((h1 u.1).1 ⟨u, hu, Int.le_refl _, h3.1⟩).2
          simp only; omega
        · rcases List.mem_cons.1 hu with h3 | h3
          · subst h3; simp only; omega
          · exact h2.2 u h3
      · refine ⟨fun q => ?_, h2⟩
        rw [hm]
        exact ⟨.inr, fun g => g.elim (fun g => by omega) id⟩

def topS : Int := 18446744073709551615
/-- What is in both. -/
def andS (a b : List Sp) : List Sp := andN ((normS topS a).length + (normS topS b).length) (normS topS a) (normS topS b)

theorem and_form (a b : List Sp) : Form topS (andS a b) := (and_spec _ _ _ (Nat.le_refl _) (norm_form _ _) (norm_form _ _)).2
theorem and_mem {a b : List Sp} {x : Int} : MemS (andS a b) x ↔ (MemS a x ∧ MemS b x) ∧ x ≤ topS := by
  rw [andS, (and_spec _ _ _ (Nat.le_refl _) (norm_form _ _) (norm_form _ _)).1, norm_mem, norm_mem]
  constructor
  · rintro ⟨⟨h1, h2⟩, h3, h4⟩; exact ⟨⟨h1, h3⟩, h2⟩
  · rintro ⟨⟨h1, h3⟩, h2⟩; exact ⟨⟨h1, h2⟩, h3, h2⟩

/-- What is in one of both. -/
def orS (a b : List Sp) : List Sp := normS topS (a ++ b)

/-! ### Not -/

def notN (most : Int) : Int → List Sp → List Sp
  | next, [] => [(next, most)]
  | next, s :: r => if s.2 = most then (if next < s.1 then [(next, s.1 - 1)] else []) else (if next < s.1 then (next, s.1 - 1) :: notN most (s.2 + 1) r else notN most (s.2 + 1) r)

theorem not_spec {most : Int} : ∀ (l : List Sp) (next : Int), Form most l → (∀ s ∈ l, next ≤ s.1) → next ≤ most →
    (∀ q, MemS (notN most next l) q ↔ (next ≤ q ∧ q ≤ most) ∧ ¬ MemS l q) ∧ Form most (notN most next l)
  | [], next, _, _, hn => by
    simp only [notN]
    refine ⟨fun q => ?_, by simp, fun u hu => ?_⟩
    · rw [MemS.cons]
      exact ⟨fun h => h.elim (fun h => ⟨h, MemS.nil⟩) fun h => absurd h MemS.nil, fun h => .inl h.1⟩
    · simp at hu; subst hu; simp only; omega
  | s :: r, next, h, hle, hn => by
    have hs := h.head
    have h0 := hle s (by simp)
    unfold notN
    by_cases hm : s.2 = most
    · have hr : ∀ x, ¬ MemS r x := fun x hx => by have := h.lt hx; have := h.tail.le hx; omega
      simp only [hm, if_true]
      split
      · refine ⟨fun q => ?_, by simp, fun u hu => ?_⟩
        · rw [MemS.cons, MemS.cons]
          constructor
          · rintro (h1 | h1)
            · simp only at h1
              exact ⟨by omega, fun h2 => h2.elim (fun h2 => by omega) (hr q)⟩
            · exact absurd h1 MemS.nil
          · rintro ⟨h1, h2⟩
            left
            simp only
            by_cases hq : q < s.1
            · omega
            · exact absurd (.inl ⟨by omega, by omega⟩) h2
        · simp at hu; subst hu; simp only; omega
      · refine ⟨fun q => ⟨fun h1 => absurd h1 MemS.nil, ?_⟩, by simp, by simp⟩
        rintro ⟨h1, h2⟩
        exact absurd (MemS.cons.2 (.inl ⟨by omega, by omega⟩)) h2
    · obtain ⟨h1, h2⟩ := not_spec r (s.2 + 1) h.tail (fun u hu => by have := (List.pairwise_cons.1 h.1).1 u hu; omega) (by omega)
      simp only [hm, if_false]
      have hlo : ∀ u ∈ notN most (s.2 + 1) r, s.2 + 1 ≤ u.1 := fun u hu => ((h1 u.1).1 ⟨u, hu, Int.le_refl _, (h2.2 u hu).1⟩).1.1
      have key : ∀ q, ((next ≤ q ∧ q ≤ most) ∧ ¬ MemS (s :: r) q) ↔ (next ≤ q ∧ q ≤ s.1 - 1) ∨ MemS (notN most (s.2 + 1) r) q := fun q => by
        rw [h1, MemS.cons]
        constructor
        · rintro ⟨g1, g2⟩
          by_cases hq : q < s.1
          · left; omega
          · by_cases hq2 : q ≤ s.2
            · exact absurd (.inl ⟨by omega, hq2⟩) g2
            · exact .inr ⟨⟨by omega, g1.2⟩, fun g => g2 (.inr g)⟩
        · rintro (g | ⟨g1, g2⟩)
          · refine ⟨by omega, ?_⟩
            rintro (g3 | g3)
            · omega
            · have := h.lt g3; omega
          · refine ⟨by omega, ?_⟩
            rintro (g3 | g3)
            · omega
            · exact g2 g3
      split
      · refine ⟨fun q => by rw [key, MemS.cons], List.pairwise_cons.2 ⟨fun u hu => by have := hlo u hu; simp only; omega, h2.1⟩, fun u hu => ?_⟩
        rcases List.mem_cons.1 hu with h3 | h3
        · subst h3; simp only; omega
        · exact h2.2 u h3
      · refine ⟨fun q => ?_, h2⟩
        rw [key]
        exact ⟨.inr, fun g => g.elim (fun g => by omega) id⟩

def notS (most : Int) (l : List Sp) : List Sp := notN most 0 (normS most l)

theorem not_form {most : Int} (hm : 0 ≤ most) {l : List Sp} (h : ∀ s ∈ l, 0 ≤ s.1) : Form most (notS most l) := (not_spec _ 0 (norm_form most l) (norm_low h) hm).2
theorem not_mem {most : Int} (hm : 0 ≤ most) {l : List Sp} (h : ∀ s ∈ l, 0 ≤ s.1) {x : Int} : MemS (notS most l) x ↔ (0 ≤ x ∧ x ≤ most) ∧ ¬ MemS l x := by
  rw [notS, (not_spec _ 0 (norm_form most l) (norm_low h) hm).1, norm_mem]
  exact ⟨fun ⟨h1, h2⟩ => ⟨h1, fun h3 => h2 ⟨h3, h1.2⟩⟩, fun ⟨h1, h2⟩ => ⟨h1, fun h3 => h2 h3.1⟩⟩

/-! ### Right -/

/-- Is the i-th span right, behind the one before it? -/
def okI (most : Int) (l : List Sp) (i : Nat) : Bool :=
  decide ((l.getD i (0, 0)).1 ≤ (l.getD i (0, 0)).2) && decide ((l.getD i (0, 0)).2 ≤ most) && (i == 0 || decide ((l.getD (i - 1) (0, 0)).2 + 2 ≤ (l.getD i (0, 0)).1))

def rightS (most : Int) (l : List Sp) : Bool := (List.range l.length).all (okI most l)

theorem right_iff {most : Int} {l : List Sp} : rightS most l = true ↔ Form most l := by
  have gd : ∀ (i : Nat) (h : i < l.length), l.getD i (0, 0) = l[i] := fun i h => by simp [List.getD, h]
  unfold rightS
  simp only [List.all_eq_true, List.mem_range, okI, Bool.and_eq_true, Bool.or_eq_true, decide_eq_true_eq, beq_iff_eq]
  constructor
  · intro h
    have hall : ∀ s ∈ l, s.1 ≤ s.2 ∧ s.2 ≤ most := fun s hs => by
      obtain ⟨i, hi, rfl⟩ := List.getElem_of_mem hs
      have := h i hi
      rw [gd i hi] at this
      exact this.1
    refine ⟨List.pairwise_iff_getElem.2 fun i j hi hj hij => ?_, hall⟩
    have key : ∀ d i (hd : i + d + 1 < l.length), l[i].2 + 1 < (l[i + d + 1]'hd).1 := fun d => by
      induction d with
      | zero =>
        intro i hd
        have := (h (i + 1) hd).2
        rw [gd (i + 1) hd, show i + 1 - 1 = i by omega, gd i (by omega)] at this
        simp only [Nat.add_zero]
        omega
      | succ d ih =>
        intro i hd
        have h1 := ih i (by omega)
        have h2 := (h (i + (d + 1) + 1) hd).2
        rw [gd _ hd, show i + (d + 1) + 1 - 1 = i + d + 1 by omega, gd (i + d + 1) (by omega)] at h2
        have h3 := (hall _ (List.getElem_mem (show i + d + 1 < l.length by omega))).1
        omega
    have := key (j - i - 1) i (by omega)
    simpa only [show i + (j - i - 1) + 1 = j by omega] using this
  · intro h i hi
    rw [gd i hi]
    refine ⟨h.2 _ (List.getElem_mem hi), ?_⟩
    by_cases h0 : i = 0
    · exact .inl h0
    · right
      rw [gd (i - 1) (by omega)]
      have := List.pairwise_iff_getElem.1 h.1 (i - 1) i (by omega) hi (by omega)
      omega

end Go.Proofs.Ytpneikbihcoaaab.Vm

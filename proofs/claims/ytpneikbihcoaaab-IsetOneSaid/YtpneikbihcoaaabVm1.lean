/- The values of the machine that the proofs of this seat walk in: what a Go value means as plain data, and what it is in memory. -/
import Derived.Calls
import Derived.Below
import Derived.Orders
namespace Go.Proofs.Ytpneikbihcoaaab.Vm
set_option linter.unusedVariables false

/-- A Go value as the walk sees it. `slice`, `ref`: what is read alone, told by its content. `own`, `addr`: what lies in an object of the walk's own. -/
inductive AV where
  | any
  | int (k : IntKind) (n : Int)
  | bool (b : Bool)
  | str (s : ByteArray)
  | agg (xs : List AV)
  | tup (xs : List AV)
  | slice (xs : List AV)
  | ref (x : AV)
  | nilS
  | nilP
  | fn (f : FuncId) (caps : List AV)
  | own (o ver off len : Nat)
  | addr (o ver i : Nat) (path : List Nat) (off : Nat)
  deriving Inhabited

mutual
def AV.size : AV → Nat
  | .agg xs => AV.sizes xs
  | _ => 1
def AV.sizes : List AV → Nat
  | [] => 0
  | x :: xs => AV.size x + AV.sizes xs
end

theorem AV.sizes_append (xs ys : List AV) : AV.sizes (xs ++ ys) = AV.sizes xs + AV.sizes ys := by
  induction xs with
  | nil => simp [AV.sizes]
  | cons x xs ih => simp [AV.sizes, ih, Nat.add_assoc]

abbrev Heap := Array Obj

/-- The cells `cs` stand at offset `off` of block `b`. -/
def Stand (h : Heap) (b off : Nat) (cs : List Value) : Prop :=
  ∃ c e fr, h[b]? = some (.cells c e fr) ∧ ∀ (j : Nat) v, cs[j]? = some v → c[off + j]? = some v

/-- What the walk knows of a memory: its blocks, the blocks to be kept out of, and what `own` and `addr` are. -/
structure Mem where
  h : Heap
  S : Nat → Prop
  X : AV → Value → Prop

mutual
/-- The cells `cs` are the value `x`. -/
def CR (m : Mem) : AV → List Value → Prop
  | .any, cs => ∃ v : Value, cs = [v] ∧ v.oneCell' = true
  | .int k n, cs => cs = [.int k n]
  | .bool b, cs => cs = [.bool b]
  | .str s, cs => cs = [.string s]
  | .agg xs, cs => CRs m xs cs
  | .tup _, _ => False
  | .slice xs, cs => ∃ a cap, cs = [.slice a xs.length cap] ∧ xs.length ≤ cap ∧
      (xs = [] ∨ ∃ ad sz, a = some ad ∧ ad.spot = none ∧ ¬ m.S ad.block ∧ CRrow m ad.block sz xs ad.off)
  | .ref x, cs => ∃ ad c1, cs = [.pointer (some ad)] ∧ ad.spot = none ∧ ¬ m.S ad.block ∧ CR m x c1 ∧ Stand m.h ad.block ad.off c1
  | .nilS, cs => cs = [.slice none 0 0]
  | .nilP, cs => cs = [.pointer none]
  | .fn f caps, cs => ∃ vs : List Value, cs = [.func (.func f) #[] vs.toArray] ∧ CRcaps m caps vs
  | .own o ver off len, cs => ∃ v : Value, cs = [v] ∧ v.oneCell' = true ∧ m.X (.own o ver off len) v
  | .addr o ver i path off, cs => ∃ v : Value, cs = [v] ∧ v.oneCell' = true ∧ m.X (.addr o ver i path off) v
def CRs (m : Mem) : List AV → List Value → Prop
  | [], cs => cs = []
  | x :: xs, cs => ∃ c1 c2, cs = c1 ++ c2 ∧ CR m x c1 ∧ CRs m xs c2
/-- Elements of `sz` cells each stand one behind another in block `b` from `off` on. -/
def CRrow (m : Mem) (b sz : Nat) : List AV → Nat → Prop
  | [], _ => True
  | x :: xs, off => (∃ cs, CR m x cs ∧ cs.length = sz ∧ Stand m.h b off cs) ∧ CRrow m b sz xs (off + sz)
/-- Captured values: one cell each. -/
def CRcaps (m : Mem) : List AV → List Value → Prop
  | [], vs => vs = []
  | x :: xs, vs => ∃ v vs', vs = v :: vs' ∧ CR m x [v] ∧ CRcaps m xs vs'
end

/-- A value that is no tuple. -/
def VR1 (m : Mem) : AV → Value → Prop
  | .any, _ => True
  | .agg xs, v => ∃ cs : List Value, v = .agg cs.toArray ∧ CRs m xs cs
  | .tup _, _ => False
  | x, v => CR m x [v]

def VRs (m : Mem) : List AV → List Value → Prop
  | [], vs => vs = []
  | x :: xs, vs => ∃ v vs', vs = v :: vs' ∧ VR1 m x v ∧ VRs m xs vs'

/-- The value `v` is `x`. -/
def VR (m : Mem) : AV → Value → Prop
  | .tup xs, v => ∃ vs : List Value, v = .tuple vs.toArray ∧ VRs m xs vs
  | x, v => VR1 m x v

/-- One memory knows at least what another one knows. -/
structure Mem.Le (m m' : Mem) : Prop where
  S : ∀ b, m'.S b → m.S b ∨ m.h.size ≤ b
  h : ∀ b, ¬ m.S b → b < m.h.size → m'.h[b]? = m.h[b]?
  X : ∀ x v, m.X x v → m'.X x v
  size : m.h.size ≤ m'.h.size

theorem Mem.Le.refl (m : Mem) : m.Le m := ⟨fun _ h => .inl h, fun _ _ _ => rfl, fun _ _ h => h, Nat.le_refl _⟩

theorem Mem.Le.trans {m m' m'' : Mem} (h1 : m.Le m') (h2 : m'.Le m'') : m.Le m'' := by
  refine ⟨fun b hb => ?_, fun b hb hlt => ?_, fun x v h => h2.X x v (h1.X x v h), Nat.le_trans h1.size h2.size⟩
  · rcases h2.S b hb with h | h
    · exact h1.S b h
    · exact .inr (Nat.le_trans h1.size h)
  · have hb' : ¬ m'.S b := fun h => by
      rcases h1.S b h with h | h
      · exact hb h
      · omega
    rw [h2.h b hb' (Nat.lt_of_lt_of_le hlt h1.size), h1.h b hb hlt]

theorem Stand.lt {h : Heap} {b off : Nat} {cs : List Value} (hs : Stand h b off cs) : b < h.size := by
  obtain ⟨c, e, fr, hb, _⟩ := hs
  exact (Array.getElem?_eq_some_iff.1 hb).1

theorem Stand.mono {m m' : Mem} (hl : m.Le m') {b off : Nat} {cs : List Value} (hS : ¬ m.S b) (hs : Stand m.h b off cs) :
    Stand m'.h b off cs ∧ ¬ m'.S b := by
  have hlt := hs.lt
  obtain ⟨c, e, fr, hb, hc⟩ := hs
  refine ⟨⟨c, e, fr, by rw [hl.h b hS hlt]; exact hb, hc⟩, fun h => ?_⟩
  rcases hl.S b h with h | h
  · exact hS h
  · omega

mutual
theorem CR.mono {m m' : Mem} (hl : m.Le m') : ∀ (x : AV) (cs : List Value), CR m x cs → CR m' x cs
  | .any, cs, h => by simpa [CR] using h
  | .int k n, cs, h => by simpa [CR] using h
  | .bool b, cs, h => by simpa [CR] using h
  | .str s, cs, h => by simpa [CR] using h
  | .agg xs, cs, h => by simp only [CR] at h ⊢; exact CRs.mono hl xs cs h
  | .tup xs, cs, h => by simp [CR] at h
  | .slice xs, cs, h => by
    simp only [CR] at h ⊢
    obtain ⟨a, cap, h1, h2, h3⟩ := h
    refine ⟨a, cap, h1, h2, ?_⟩
    rcases h3 with h3 | ⟨ad, sz, h3, h4, h5, h6⟩
    · exact .inl h3
    · cases xs with
      | nil => exact .inl rfl
      | cons x xs =>
        have h7 := CRrow.mono hl ad.block sz h5 (x :: xs) ad.off h6
        have h8 : ¬ m'.S ad.block := by
          simp only [CRrow] at h6
          obtain ⟨⟨cs, _, _, hs⟩, _⟩ := h6
          exact (hs.mono hl h5).2
        exact .inr ⟨ad, sz, h3, h4, h8, h7⟩
  | .ref x, cs, h => by
    simp only [CR] at h ⊢
    obtain ⟨ad, c1, h1, h2, h3, h4, h5⟩ := h
    have h6 := h5.mono hl h3
    exact ⟨ad, c1, h1, h2, h6.2, CR.mono hl x c1 h4, h6.1⟩
  | .nilS, cs, h => by simpa [CR] using h
  | .nilP, cs, h => by simpa [CR] using h
  | .fn f caps, cs, h => by
    simp only [CR] at h ⊢
    obtain ⟨vs, h1, h2⟩ := h
    exact ⟨vs, h1, CRcaps.mono hl caps vs h2⟩
  | .own o ver off len, cs, h => by
    simp only [CR] at h ⊢
    obtain ⟨v, h1, h2, h3⟩ := h
    exact ⟨v, h1, h2, hl.X _ _ h3⟩
  | .addr o ver i path off, cs, h => by
    simp only [CR] at h ⊢
    obtain ⟨v, h1, h2, h3⟩ := h
    exact ⟨v, h1, h2, hl.X _ _ h3⟩
theorem CRs.mono {m m' : Mem} (hl : m.Le m') : ∀ (xs : List AV) (cs : List Value), CRs m xs cs → CRs m' xs cs
  | [], cs, h => by simpa [CRs] using h
  | x :: xs, cs, h => by
    simp only [CRs] at h ⊢
    obtain ⟨c1, c2, h1, h2, h3⟩ := h
    exact ⟨c1, c2, h1, CR.mono hl x c1 h2, CRs.mono hl xs c2 h3⟩
theorem CRrow.mono {m m' : Mem} (hl : m.Le m') (b sz : Nat) (hS : ¬ m.S b) : ∀ (xs : List AV) (off : Nat), CRrow m b sz xs off → CRrow m' b sz xs off
  | [], off, h => by simp [CRrow]
  | x :: xs, off, h => by
    simp only [CRrow] at h ⊢
    obtain ⟨⟨cs, h1, h2, h3⟩, h4⟩ := h
    exact ⟨⟨cs, CR.mono hl x cs h1, h2, (h3.mono hl hS).1⟩, CRrow.mono hl b sz hS xs _ h4⟩
theorem CRcaps.mono {m m' : Mem} (hl : m.Le m') : ∀ (xs : List AV) (vs : List Value), CRcaps m xs vs → CRcaps m' xs vs
  | [], vs, h => by simpa [CRcaps] using h
  | x :: xs, vs, h => by
    simp only [CRcaps] at h ⊢
    obtain ⟨v, vs', h1, h2, h3⟩ := h
    exact ⟨v, vs', h1, CR.mono hl x [v] h2, CRcaps.mono hl xs vs' h3⟩
end

theorem VR1.mono {m m' : Mem} (hl : m.Le m') (x : AV) (v : Value) (h : VR1 m x v) : VR1 m' x v := by
  cases x <;> simp only [VR1] at h ⊢
  case agg xs => obtain ⟨cs, h1, h2⟩ := h; exact ⟨cs, h1, CRs.mono hl _ _ h2⟩
  all_goals exact CR.mono hl _ _ h

theorem VRs.mono {m m' : Mem} (hl : m.Le m') : ∀ (xs : List AV) (vs : List Value), VRs m xs vs → VRs m' xs vs
  | [], vs, h => by simpa [VRs] using h
  | x :: xs, vs, h => by
    simp only [VRs] at h ⊢
    obtain ⟨v, vs', h1, h2, h3⟩ := h
    exact ⟨v, vs', h1, VR1.mono hl x v h2, VRs.mono hl xs vs' h3⟩

theorem VR.mono {m m' : Mem} (hl : m.Le m') (x : AV) (v : Value) (h : VR m x v) : VR m' x v := by
  cases x <;> simp only [VR] at h ⊢
  case tup xs => obtain ⟨vs, h1, h2⟩ := h; exact ⟨vs, h1, VRs.mono hl _ _ h2⟩
  all_goals exact VR1.mono hl _ _ h

mutual
theorem CR.length {m : Mem} : ∀ (x : AV) (cs : List Value), CR m x cs → cs.length = x.size
  | .any, cs, h => by simp only [CR] at h; obtain ⟨v, rfl, _⟩ := h; rfl
  | .int k n, cs, h => by simp only [CR] at h; subst h; rfl
  | .bool b, cs, h => by simp only [CR] at h; subst h; rfl
  | .str s, cs, h => by simp only [CR] at h; subst h; rfl
  | .agg xs, cs, h => by simp only [CR] at h; simp only [AV.size]; exact CRs.length xs cs h
  | .tup xs, cs, h => by simp [CR] at h
  | .slice xs, cs, h => by simp only [CR] at h; obtain ⟨a, cap, rfl, _⟩ := h; rfl
  | .ref x, cs, h => by simp only [CR] at h; obtain ⟨ad, c1, rfl, _⟩ := h; rfl
  | .nilS, cs, h => by simp only [CR] at h; subst h; rfl
  | .nilP, cs, h => by simp only [CR] at h; subst h; rfl
  | .fn f caps, cs, h => by simp only [CR] at h; obtain ⟨vs, rfl, _⟩ := h; rfl
  | .own o ver off len, cs, h => by simp only [CR] at h; obtain ⟨v, rfl, _⟩ := h; rfl
  | .addr o ver i path off, cs, h => by simp only [CR] at h; obtain ⟨v, rfl, _⟩ := h; rfl
theorem CRs.length {m : Mem} : ∀ (xs : List AV) (cs : List Value), CRs m xs cs → cs.length = AV.sizes xs
  | [], cs, h => by simp only [CRs] at h; subst h; rfl
  | x :: xs, cs, h => by
    simp only [CRs] at h
    obtain ⟨c1, c2, rfl, h2, h3⟩ := h
    simp only [List.length_append, AV.sizes]
    rw [CR.length x c1 h2, CRs.length xs c2 h3]
end

/-- A value of one cell, no aggregate. -/
def AV.one : AV → Bool
  | .any | .agg _ | .tup _ => false
  | _ => true

theorem VR.of_one {m : Mem} {x : AV} {v : Value} (ho : x.one = true) (h : CR m x [v]) : VR m x v := by
  cases x <;> simp_all [AV.one, VR, VR1]

theorem CR.of_one {m : Mem} {x : AV} {v : Value} (ho : x.one = true) (h : VR m x v) : CR m x [v] := by
  cases x <;> simp_all [AV.one, VR, VR1, CR]

mutual
theorem CR.cells {m : Mem} : ∀ (x : AV) (cs : List Value), CR m x cs → ∀ v ∈ cs, v.oneCell' = true
  | .any, cs, h => by simp only [CR] at h; obtain ⟨v, rfl, h1⟩ := h; simpa using h1
  | .int k n, cs, h => by simp only [CR] at h; subst h; simp [Value.oneCell']
  | .bool b, cs, h => by simp only [CR] at h; subst h; simp [Value.oneCell']
  | .str s, cs, h => by simp only [CR] at h; subst h; simp [Value.oneCell']
  | .agg xs, cs, h => by simp only [CR] at h; exact CRs.cells xs cs h
  | .tup xs, cs, h => by simp [CR] at h
  | .slice xs, cs, h => by simp only [CR] at h; obtain ⟨a, cap, rfl, _⟩ := h; simp [Value.oneCell']
  | .ref x, cs, h => by simp only [CR] at h; obtain ⟨ad, c1, rfl, _⟩ := h; simp [Value.oneCell']
  | .nilS, cs, h => by simp only [CR] at h; subst h; simp [Value.oneCell']
  | .nilP, cs, h => by simp only [CR] at h; subst h; simp [Value.oneCell']
  | .fn f caps, cs, h => by simp only [CR] at h; obtain ⟨vs, rfl, _⟩ := h; simp [Value.oneCell']
  | .own o ver off len, cs, h => by simp only [CR] at h; obtain ⟨v, rfl, h1, _⟩ := h; simpa using h1
  | .addr o ver i path off, cs, h => by simp only [CR] at h; obtain ⟨v, rfl, h1, _⟩ := h; simpa using h1
theorem CRs.cells {m : Mem} : ∀ (xs : List AV) (cs : List Value), CRs m xs cs → ∀ v ∈ cs, v.oneCell' = true
  | [], cs, h => by simp only [CRs] at h; subst h; simp
  | x :: xs, cs, h => by
    simp only [CRs] at h
    obtain ⟨c1, c2, rfl, h2, h3⟩ := h
    intro v hv
    rcases List.mem_append.1 hv with hv | hv
    · exact CR.cells x c1 h2 v hv
    · exact CRs.cells xs c2 h3 v hv
end

end Go.Proofs.Ytpneikbihcoaaab.Vm

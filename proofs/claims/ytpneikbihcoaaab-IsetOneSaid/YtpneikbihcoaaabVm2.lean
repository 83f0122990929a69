/- The objects of a walk, and what they are in memory. -/
import Derived.Test.YtpneikbihcoaaabVm1
import Derived.Laws.Cells
import Derived.RowKit3
namespace Go.Proofs.Ytpneikbihcoaaab.Vm
set_option linter.unusedVariables false

/-- An object: a row of elements of `esz` cells each. `nil`: no memory yet. `fz`: never written again. -/
structure AObj where
  ver : Nat
  esz : Nat
  nil : Bool
  fz : Bool
  elems : List AV
  deriving Inhabited

/-- Where an object lies: its block, and how many cells that has. -/
structure PO where
  b : Nat
  n : Nat

structure AState where
  env : Nat → AV
  L : List AObj

/-- What `own` and `addr` are. -/
def ownX (L : List AObj) (β : List PO) : AV → Value → Prop
  | .own o ver off len, v => ∃ obj po, L[o]? = some obj ∧ β[o]? = some po ∧ ver ≤ obj.ver ∧ (obj.ver = ver →
      if obj.nil = true then v = .slice none 0 0 ∧ len = 0 ∧ off = 0 else
        ∃ a cap, v = .slice (some a) len cap ∧ a.block = po.b ∧ a.spot = none ∧ len ≤ cap ∧ (cap ≠ 0 → a.off = off * obj.esz) ∧
          (off + cap) * obj.esz ≤ po.n)
  | .addr o ver i path off, v => ∃ obj po, L[o]? = some obj ∧ β[o]? = some po ∧ ver ≤ obj.ver ∧ (obj.ver = ver → obj.nil = false ∧
      v = .pointer (some ⟨po.b, i * obj.esz + off, none⟩))
  | _, _ => False

/-- The blocks that the walk may write. -/
def ownB (L : List AObj) (β : List PO) (b : Nat) : Prop :=
  ∃ (o : Nat) (obj : AObj) (po : PO), L[o]? = some obj ∧ β[o]? = some po ∧ obj.nil = false ∧ obj.fz = false ∧ po.b = b

def memOf (h : Heap) (L : List AObj) (β : List PO) (S0 : Nat → Prop) : Mem := ⟨h, fun b => S0 b ∨ ownB L β b, ownX L β⟩

/-- A row of cells that may be written. -/
def Free (h : Heap) (b n : Nat) : Prop :=
  ∃ c e fr, h[b]? = some (.cells c e fr) ∧ c.size = n ∧ ∀ j, j < n → ¬ (fr.1 ≤ j ∧ j < fr.2)

structure HeapRel (h : Heap) (L : List AObj) (β : List PO) (S0 W : Nat → Prop) : Prop where
  len : β.length = L.length
  nil : ∀ (o : Nat) (obj : AObj), L[o]? = some obj → obj.nil = true → obj.elems = []
  esz : ∀ (o : Nat) (obj : AObj) (po : PO), L[o]? = some obj → β[o]? = some po → obj.nil = false → 0 < obj.esz
  S : ∀ (o : Nat) (obj : AObj) (po : PO), L[o]? = some obj → β[o]? = some po → obj.nil = false → ¬ S0 po.b
  W : ∀ (o : Nat) (obj : AObj) (po : PO), L[o]? = some obj → β[o]? = some po → obj.nil = false → obj.fz = false → W po.b
  room : ∀ (o : Nat) (obj : AObj) (po : PO), L[o]? = some obj → β[o]? = some po → obj.nil = false → obj.elems.length * obj.esz ≤ po.n
  row : ∀ (o : Nat) (obj : AObj) (po : PO), L[o]? = some obj → β[o]? = some po → obj.nil = false → CRrow (memOf h L β S0) po.b obj.esz obj.elems 0
  free : ∀ (o : Nat) (obj : AObj) (po : PO), L[o]? = some obj → β[o]? = some po → obj.nil = false → Free h po.b po.n
  inj : ∀ (o o' : Nat) (obj obj' : AObj) (po po' : PO), L[o]? = some obj → L[o']? = some obj' → β[o]? = some po → β[o']? = some po' →
    obj.nil = false → obj'.nil = false → po.b = po'.b → o = o'

structure Ctx where
  P : Program
  n : Nat
  w0 : World
  S0 : Nat → Prop
  In : Nat → Prop
  L0 : List AObj
  β0 : List PO

def Ctx.m0 (c : Ctx) : Mem := memOf c.w0.heap c.L0 c.β0 c.S0

def Ctx.W (c : Ctx) (b : Nat) : Prop := c.w0.heap.size ≤ b ∨ c.In b

structure Ext (c : Ctx) (w : World) : Prop where
  os : w.os = c.w0.os
  tape : w.tape = c.w0.tape
  output : w.output = c.w0.output
  size : c.w0.heap.size ≤ w.heap.size
  block : ∀ k, k < c.w0.heap.size → ¬ c.In k → w.heap[k]? = c.w0.heap[k]?

structure Rel (c : Ctx) (σ : AState) (a : Act) (w : World) (β : List PO) : Prop where
  defers : a.defers = []
  size : a.tmps.size = c.n
  env : ∀ i, VR (memOf w.heap σ.L β c.S0) (σ.env i) (a.tmps.getD i undef)
  heap : HeapRel w.heap σ.L β c.S0 c.W
  ext : Ext c w
  S0 : ∀ b, c.S0 b → b < c.w0.heap.size
  le : c.m0.Le (memOf w.heap σ.L β c.S0)

def upd (f : Nat → AV) (i : Nat) (x : AV) : Nat → AV := fun j => if j = i then x else f j
theorem upd_eq (f : Nat → AV) (i : Nat) (x : AV) : upd f i x i = x := by simp [upd]
theorem upd_ne (f : Nat → AV) (i j : Nat) (x : AV) (h : (j == i) = false) : upd f i x j = f j := by
  have : j ≠ i := by simpa using h
  simp [upd, this]

def updO (f : Nat → AV) : Option Nat → AV → Nat → AV
  | some i, x => upd f i x
  | none, _ => f

theorem VR.any {m : Mem} (v : Value) : VR m .any v := by simp [VR, VR1]

/-- A step that keeps what was known. -/
theorem Rel.step {c : Ctx} {σ : AState} {a : Act} {w w' : World} {β β' : List PO} (h : Rel c σ a w β) {L' : List AObj} {x : AV} {v : Value} (d : Option Nat)
    (hle : (memOf w.heap σ.L β c.S0).Le (memOf w'.heap L' β' c.S0)) (hh : HeapRel w'.heap L' β' c.S0 c.W) (he : Ext c w')
    (hd : ∀ i, d = some i → i < c.n) (hv : VR (memOf w'.heap L' β' c.S0) x v) : Rel c ⟨updO σ.env d x, L'⟩ (a.put d v) w' β' := by
  refine ⟨?_, ?_, ?_, hh, he, h.S0, h.le.trans hle⟩
  · cases d <;> simp [Act.put, h.defers]
  · cases d <;> simp [Act.put, h.size]
  · intro i
    cases d with
    | none => simp only [Act.put, updO]; exact VR.mono hle _ _ (h.env i)
    | some d =>
      have hlt := hd d rfl
      simp only [Act.put, updO, upd]
      by_cases hi : i = d
      · subst hi
        simp only [if_true]
        have : (a.tmps.setIfInBounds i v).getD i undef = v := by
          simp [Array.getD, h.size, hlt]
        rw [this]; exact hv
      · simp only [hi, if_false]
        have hne : ¬ d = i := fun e => hi e.symm
        have : (a.tmps.setIfInBounds d v).getD i undef = a.tmps.getD i undef := by
          simp [Array.getElem?_setIfInBounds_ne hne]
        rw [this]; exact VR.mono hle _ _ (h.env i)

/-- A world that differs in what was drawn alone. -/
theorem Ext.heap {c : Ctx} {w w' : World} (h : Ext c w) (h1 : w'.heap = w.heap) (h2 : w'.os = w.os) (h3 : w'.tape = w.tape) (h4 : w'.output = w.output) : Ext c w' :=
  ⟨h2.trans h.os, h3.trans h.tape, h4.trans h.output, by rw [h1]; exact h.size, fun k hk hn => by rw [h1]; exact h.block k hk hn⟩

theorem Rel.drawn {c : Ctx} {σ : AState} {a : Act} {w w' : World} {β : List PO} (h : Rel c σ a w β) (h1 : w'.heap = w.heap) (h2 : w'.os = w.os) (h3 : w'.tape = w.tape)
    (h4 : w'.output = w.output) : Rel c σ a w' β :=
  ⟨h.defers, h.size, by rw [h1]; exact h.env, by rw [h1]; exact h.heap, h.ext.heap h1 h2 h3 h4, h.S0, by rw [h1]; exact h.le⟩

/-- What is known may be forgotten. -/
theorem Rel.weaken {c : Ctx} {σ : AState} {a : Act} {w : World} {β : List PO} (h : Rel c σ a w β) {env' : Nat → AV} (he : ∀ i, env' i = .any ∨ env' i = σ.env i) :
    Rel c ⟨env', σ.L⟩ a w β :=
  ⟨h.defers, h.size, fun i => by rcases he i with e | e <;> rw [show (⟨env', σ.L⟩ : AState).env i = _ from e]; exact VR.any _; exact h.env i, h.heap, h.ext, h.S0, h.le⟩

/-! ### A new object -/

theorem ownX_append {L : List AObj} {β : List PO} (hl : β.length = L.length) (L2 : List AObj) (β2 : List PO) {x : AV} {v : Value} (h : ownX L β x v) :
    ownX (L ++ L2) (β ++ β2) x v := by
  cases x <;> simp only [ownX] at h ⊢
  case own o ver off len =>
    obtain ⟨obj, po, h1, h2, h3⟩ := h
    have hlt := (List.getElem?_eq_some_iff.1 h1).1
    exact ⟨obj, po, by rw [List.getElem?_append_left hlt]; exact h1, by rw [List.getElem?_append_left (by omega)]; exact h2, h3⟩
  case addr o ver i path off =>
    obtain ⟨obj, po, h1, h2, h3⟩ := h
    have hlt := (List.getElem?_eq_some_iff.1 h1).1
    exact ⟨obj, po, by rw [List.getElem?_append_left hlt]; exact h1, by rw [List.getElem?_append_left (by omega)]; exact h2, h3⟩

theorem ownB_snoc {L : List AObj} {β : List PO} (hl : β.length = L.length) {obj : AObj} {po : PO} {b : Nat} (h : ownB (L ++ [obj]) (β ++ [po]) b) :
    ownB L β b ∨ (obj.nil = false ∧ po.b = b) := by
  obtain ⟨o, ob, p, h1, h2, h3, h4, h5⟩ := h
  by_cases ho : o < L.length
  · rw [List.getElem?_append_left ho] at h1
    rw [List.getElem?_append_left (by omega)] at h2
    exact .inl ⟨o, ob, p, h1, h2, h3, h4, h5⟩
  · have hlt := (List.getElem?_eq_some_iff.1 h1).1
    have : o = L.length := by simp at hlt; omega
    subst this
    simp at h1
    rw [← hl] at h2
    simp at h2
    subst h1 h2
    exact .inr ⟨h3, h5⟩

theorem Heap.push_get {h : Heap} {o : Obj} {b : Nat} (hb : b < h.size) : (h.push o)[b]? = h[b]? := by
  rw [Array.getElem?_push, if_neg (by omega)]

/-- Elements whose cells stand one behind another in one list. -/
def CRcat (m : Mem) (sz : Nat) : List AV → List Value → Prop
  | [], _ => True
  | x :: xs, cs => ∃ c1 c2, cs = c1 ++ c2 ∧ CR m x c1 ∧ c1.length = sz ∧ CRcat m sz xs c2

theorem CRcat.mono {m m' : Mem} (hl : m.Le m') {sz : Nat} : ∀ {xs : List AV} {cs : List Value}, CRcat m sz xs cs → CRcat m' sz xs cs
  | [], _, _ => trivial
  | x :: xs, cs, h => by
    obtain ⟨c1, c2, h1, h2, h3, h4⟩ := h
    exact ⟨c1, c2, h1, CR.mono hl _ _ h2, h3, CRcat.mono hl h4⟩

theorem CRcat.length {m : Mem} {sz : Nat} : ∀ {xs : List AV} {cs : List Value}, CRcat m sz xs cs → xs.length * sz ≤ cs.length
  | [], _, _ => by simp
  | x :: xs, cs, h => by
    obtain ⟨c1, c2, h1, h2, h3, h4⟩ := h
    have := CRcat.length h4
    subst h1
    simp only [List.length_cons, List.length_append, h3, Nat.add_mul, Nat.one_mul]
    omega

/-- The elements, read off a block that holds their cells. -/
theorem CRcat.row {m : Mem} {sz b : Nat} {c : Array Value} {e : TypeId} {fr : Nat × Nat} (hb : m.h[b]? = some (.cells c e fr)) :
    ∀ {xs : List AV} {cs : List Value} {off : Nat}, CRcat m sz xs cs → (∀ (j : Nat) v, cs[j]? = some v → c[off + j]? = some v) → CRrow m b sz xs off
  | [], _, _, _, _ => by simp [CRrow]
  | x :: xs, cs, off, h, hc => by
    obtain ⟨c1, c2, h1, h2, h3, h4⟩ := h
    subst h1
    simp only [CRrow]
    refine ⟨⟨c1, h2, h3, c, e, fr, hb, fun j v hj => hc j v ?_⟩, ?_⟩
    · have hlt := (List.getElem?_eq_some_iff.1 hj).1
      rw [List.getElem?_append_left hlt]; exact hj
    · refine CRcat.row hb h4 fun j v hj => ?_
      rw [Nat.add_assoc]
      refine hc (sz + j) v ?_
      rw [List.getElem?_append_right (by omega)]
      simpa [h3] using hj

theorem CRrow.mono_own {m m' : Mem} (hl : m.Le m') {b sz : Nat} (hb : m'.h[b]? = m.h[b]?) : ∀ (xs : List AV) (off : Nat), CRrow m b sz xs off → CRrow m' b sz xs off
  | [], off, h => by simp [CRrow]
  | x :: xs, off, h => by
    simp only [CRrow] at h ⊢
    obtain ⟨⟨cs, h1, h2, c, e, fr, h3, h4⟩, h5⟩ := h
    exact ⟨⟨cs, CR.mono hl x cs h1, h2, c, e, fr, by rw [hb]; exact h3, h4⟩, CRrow.mono_own hl hb xs _ h5⟩

/-- The new object's memory knows what the old one knew. -/
theorem Mem.Le.snoc {h h' : Heap} {L : List AObj} {β : List PO} {S0 : Nat → Prop} (hl : β.length = L.length) {obj : AObj} {po : PO}
    (hsize : h.size ≤ h'.size) (hsz : ∀ b, b < h.size → h'[b]? = h[b]?) (hnew : obj.nil = false → h.size ≤ po.b) :
    (memOf h L β S0).Le (memOf h' (L ++ [obj]) (β ++ [po]) S0) := by
  refine ⟨fun b hb => ?_, fun b _ hb => hsz b hb, fun x v hx => ownX_append hl _ _ hx, hsize⟩
  rcases hb with hb | hb
  · exact .inl (.inl hb)
  · rcases ownB_snoc hl hb with hb | ⟨h1, rfl⟩
    · exact .inl (.inr hb)
    · exact .inr (hnew h1)

theorem getElem?_snoc {α : Type} {l : List α} {x y : α} {i : Nat} (h : (l ++ [x])[i]? = some y) : l[i]? = some y ∨ (i = l.length ∧ x = y) := by
  by_cases hi : i < l.length
  · rw [List.getElem?_append_left hi] at h; exact .inl h
  · have hlt := (List.getElem?_eq_some_iff.1 h).1
    have : i = l.length := by simp at hlt; omega
    subst this
    simp at h
    exact .inr ⟨rfl, h⟩

/-- An object is added that lies in a new block. -/
theorem HeapRel.snoc {h : Heap} {L : List AObj} {β : List PO} {S0 W : Nat → Prop} (hr : HeapRel h L β S0 W) {obj : AObj} {cs : List Value} {e : TypeId}
    (hS0 : ¬ S0 h.size) (hW : W h.size) (hsz : 0 < obj.esz) (hnil : obj.nil = false) (hcs : CRcat (memOf h L β S0) obj.esz obj.elems cs) (fr : Nat × Nat) (hfr : ∀ j, j < cs.length → ¬ (fr.1 ≤ j ∧ j < fr.2)) :
    HeapRel (h.push (.cells cs.toArray e fr)) (L ++ [obj]) (β ++ [⟨h.size, cs.length⟩]) S0 W := by
  have hlt : ∀ (o : Nat) (ob : AObj) (po : PO), L[o]? = some ob → β[o]? = some po → ob.nil = false → po.b < h.size := fun o ob po h1 h2 h3 => by
    obtain ⟨c, e, fr, hb, _⟩ := hr.free o ob po h1 h2 h3
    exact (Array.getElem?_eq_some_iff.1 hb).1
  have hle : (memOf h L β S0).Le (memOf (h.push (.cells cs.toArray e fr)) (L ++ [obj]) (β ++ [⟨h.size, cs.length⟩]) S0) :=
    Mem.Le.snoc hr.len (by simp) (fun b hb => Heap.push_get hb) (fun _ => Nat.le_refl _)
  have hnew : (h.push (.cells cs.toArray e fr))[h.size]? = some (.cells cs.toArray e fr) := by simp
  have two : ∀ (o : Nat) (ob : AObj) (po : PO), (L ++ [obj])[o]? = some ob → (β ++ [(⟨h.size, cs.length⟩ : PO)])[o]? = some po →
      (L[o]? = some ob ∧ β[o]? = some po) ∨ (o = L.length ∧ ob = obj ∧ po = ⟨h.size, cs.length⟩) := fun o ob po h1 h2 => by
    rcases getElem?_snoc h1 with k1 | ⟨k1, e1⟩
    · rcases getElem?_snoc h2 with k2 | ⟨k2, e2⟩
      · exact .inl ⟨k1, k2⟩
      · have := (List.getElem?_eq_some_iff.1 k1).1
        have := hr.len
        omega
    · rcases getElem?_snoc h2 with k2 | ⟨k2, e2⟩
      · have := (List.getElem?_eq_some_iff.1 k2).1
        have := hr.len
        omega
      · exact .inr ⟨k1, e1.symm, e2.symm⟩
  refine ⟨by simp [hr.len], ?_, ?_, ?_, ?_, ?_, ?_, ?_, ?_⟩
  · intro o ob h1 h2
    rcases getElem?_snoc h1 with h1 | ⟨h1, rfl⟩
    · exact hr.nil o ob h1 h2
    · rw [hnil] at h2; cases h2
  · intro o ob po h1 h2 h3
    rcases two o ob po h1 h2 with ⟨h1, h2⟩ | ⟨rfl, rfl, rfl⟩
    · exact hr.esz o ob po h1 h2 h3
    · exact hsz
  · intro o ob po h1 h2 h3
    rcases two o ob po h1 h2 with ⟨h1, h2⟩ | ⟨rfl, rfl, rfl⟩
    · exact hr.S o ob po h1 h2 h3
    · exact hS0
  · intro o ob po h1 h2 h3 h4
    rcases two o ob po h1 h2 with ⟨h1, h2⟩ | ⟨rfl, rfl, rfl⟩
    · exact hr.W o ob po h1 h2 h3 h4
    · exact hW
  · intro o ob po h1 h2 h3
    rcases two o ob po h1 h2 with ⟨h1, h2⟩ | ⟨rfl, rfl, rfl⟩
    · exact hr.room o ob po h1 h2 h3
    · exact hcs.length
  · intro o ob po h1 h2 h3
    rcases two o ob po h1 h2 with ⟨h1, h2⟩ | ⟨rfl, rfl, rfl⟩
    · exact CRrow.mono_own hle (Heap.push_get (hlt o ob po h1 h2 h3)) _ _ (hr.row o ob po h1 h2 h3)
    · refine CRcat.row (c := cs.toArray) (e := e) (fr := fr) hnew (hcs.mono hle) fun j v hj => ?_
      simpa using hj
  · intro o ob po h1 h2 h3
    rcases two o ob po h1 h2 with ⟨h1, h2⟩ | ⟨rfl, rfl, rfl⟩
    · obtain ⟨c, e, fr, hb, hc⟩ := hr.free o ob po h1 h2 h3
      exact ⟨c, e, fr, by rw [Heap.push_get (hlt o ob po h1 h2 h3)]; exact hb, hc⟩
    · exact ⟨cs.toArray, e, fr, hnew, by simp, hfr⟩
  · intro o o' ob ob' po po' h1 h1' h2 h2' h3 h3' hb
    rcases two o ob po h1 h2 with ⟨k1, k2⟩ | ⟨e1, e2, e3⟩
    · rcases two o' ob' po' h1' h2' with ⟨k1', k2'⟩ | ⟨e1', e2', e3'⟩
      · exact hr.inj o o' ob ob' po po' k1 k1' k2 k2' h3 h3' hb
      · have := hlt o ob po k1 k2 h3
        subst e3'
        simp only at hb; omega
    · rcases two o' ob' po' h1' h2' with ⟨k1', k2'⟩ | ⟨e1', e2', e3'⟩
      · have := hlt o' ob' po' k1' k2' h3'
        subst e3
        simp only at hb; omega
      · rw [e1, e1']

/-- An object is added that has no memory yet. -/
theorem HeapRel.snoc_nil {h : Heap} {L : List AObj} {β : List PO} {S0 W : Nat → Prop} (hr : HeapRel h L β S0 W) (ver esz : Nat) (fz : Bool) (po : PO) :
    HeapRel h (L ++ [⟨ver, esz, true, fz, []⟩]) (β ++ [po]) S0 W ∧ (memOf h L β S0).Le (memOf h (L ++ [⟨ver, esz, true, fz, []⟩]) (β ++ [po]) S0) := by
  have hle : (memOf h L β S0).Le (memOf h (L ++ [⟨ver, esz, true, fz, []⟩]) (β ++ [po]) S0) :=
    Mem.Le.snoc hr.len (Nat.le_refl _) (fun b hb => rfl) (fun h => by simp at h)
  have two : ∀ (o : Nat) (ob : AObj) (p : PO), (L ++ [(⟨ver, esz, true, fz, []⟩ : AObj)])[o]? = some ob → (β ++ [po])[o]? = some p → ob.nil = false →
      (L[o]? = some ob ∧ β[o]? = some p) := fun o ob p h1 h2 h3 => by
    rcases getElem?_snoc h1 with h1 | ⟨h1, rfl⟩
    · rcases getElem?_snoc h2 with h2 | ⟨h2, rfl⟩
      · exact ⟨h1, h2⟩
      · have := (List.getElem?_eq_some_iff.1 h1).1
        have := hr.len
        omega
    · simp at h3
  refine ⟨⟨by simp [hr.len], ?_, ?_, ?_, ?_, ?_, ?_, ?_, ?_⟩, hle⟩
  · intro o ob h1 h2
    rcases getElem?_snoc h1 with h1 | ⟨h1, rfl⟩
    · exact hr.nil o ob h1 h2
    · rfl
  · exact fun o ob p h1 h2 h3 => hr.esz o ob p (two o ob p h1 h2 h3).1 (two o ob p h1 h2 h3).2 h3
  · exact fun o ob p h1 h2 h3 => hr.S o ob p (two o ob p h1 h2 h3).1 (two o ob p h1 h2 h3).2 h3
  · exact fun o ob p h1 h2 h3 => hr.W o ob p (two o ob p h1 h2 h3).1 (two o ob p h1 h2 h3).2 h3
  · exact fun o ob p h1 h2 h3 => hr.room o ob p (two o ob p h1 h2 h3).1 (two o ob p h1 h2 h3).2 h3
  · exact fun o ob p h1 h2 h3 => CRrow.mono_own hle rfl _ _ (hr.row o ob p (two o ob p h1 h2 h3).1 (two o ob p h1 h2 h3).2 h3)
  · exact fun o ob p h1 h2 h3 => hr.free o ob p (two o ob p h1 h2 h3).1 (two o ob p h1 h2 h3).2 h3
  · exact fun o o' ob ob' p p' h1 h1' h2 h2' h3 h3' hb =>
      hr.inj o o' ob ob' p p' (two o ob p h1 h2 h3).1 (two o' ob' p' h1' h2' h3').1 (two o ob p h1 h2 h3).2 (two o' ob' p' h1' h2' h3').2 h3 h3' hb

end Go.Proofs.Ytpneikbihcoaaab.Vm

/- Reading and writing the objects of a walk. -/
import Derived.Test.YtpneikbihcoaaabVm2
namespace Go.Proofs.Ytpneikbihcoaaab.Vm
set_option linter.unusedVariables false

/-! ### Parts of a value -/

def AV.getP : AV → List Nat → Option AV
  | x, [] => some x
  | .agg xs, i :: p => (xs[i]?).bind fun y => AV.getP y p
  | _, _ :: _ => none

def AV.offP : AV → List Nat → Option Nat
  | _, [] => some 0
  | .agg xs, i :: p => (xs[i]?).bind fun y => (AV.offP y p).map (AV.sizes (xs.take i) + ·)
  | _, _ :: _ => none

def AV.setP : AV → List Nat → AV → Option AV
  | _, [], z => some z
  | .agg xs, i :: p, z => (xs[i]?).bind fun y => (AV.setP y p z).map fun y' => .agg (xs.set i y')
  | _, _ :: _, _ => none

theorem CRs.split {m : Mem} : ∀ (xs : List AV) (i : Nat) (y : AV) (cs : List Value), CRs m xs cs → xs[i]? = some y →
    ∃ c0 c1 c2, cs = c0 ++ c1 ++ c2 ∧ c0.length = AV.sizes (xs.take i) ∧ CR m y c1 ∧
      ∀ m' : Mem, m.Le m' → ∀ y' c1', CR m' y' c1' → CRs m' (xs.set i y') (c0 ++ c1' ++ c2)
  | [], i, y, cs, _, h => by simp at h
  | x :: xs, 0, y, cs, h, hy => by
    simp at hy; subst hy
    simp only [CRs] at h
    obtain ⟨c1, c2, rfl, h2, h3⟩ := h
    refine ⟨[], c1, c2, by simp, rfl, h2, fun m' hl y' c1' hy' => ?_⟩
    simp only [List.set_cons_zero, CRs, List.nil_append]
    exact ⟨c1', c2, rfl, hy', CRs.mono hl _ _ h3⟩
  | x :: xs, i + 1, y, cs, h, hy => by
    simp only [List.getElem?_cons_succ] at hy
    simp only [CRs] at h
    obtain ⟨c1, c2, rfl, h2, h3⟩ := h
    obtain ⟨d0, d1, d2, rfl, e1, e2, e3⟩ := CRs.split xs i y c2 h3 hy
    refine ⟨c1 ++ d0, d1, d2, by simp, ?_, e2, fun m' hl y' c1' hy' => ?_⟩
    · simp only [List.length_append, List.take_succ_cons, AV.sizes, e1, CR.length x c1 h2]
    · simp only [List.set_cons_succ, CRs]
      exact ⟨c1, d0 ++ c1' ++ d2, by simp, CR.mono hl _ _ h2, e3 m' hl y' c1' hy'⟩

/-- A part of a value: its cells, and what becomes of the whole where they are turned. -/
theorem CR.focus {m : Mem} : ∀ (p : List Nat) (x y : AV) (cs : List Value), CR m x cs → x.getP p = some y →
    ∃ c0 c1 c2, cs = c0 ++ c1 ++ c2 ∧ x.offP p = some c0.length ∧ CR m y c1 ∧
      ∀ m' : Mem, m.Le m' → ∀ z c1', CR m' z c1' → ∃ x', x.setP p z = some x' ∧ CR m' x' (c0 ++ c1' ++ c2)
  | [], x, y, cs, h, hy => by
    have : x = y := by cases x <;> simpa [AV.getP] using hy
    subst this
    refine ⟨[], cs, [], by simp, by cases x <;> rfl, h, fun m' hl z c1' hz => ⟨z, by cases x <;> rfl, by simpa using hz⟩⟩
  | i :: p, x, y, cs, h, hy => by
    cases x <;> simp only [AV.getP] at hy <;> try (cases hy; done)
    rename_i xs
    cases hi : xs[i]? with
    | none => simp [hi] at hy
    | some u =>
      simp only [hi, Option.bind_some] at hy
      simp only [CR] at h
      obtain ⟨c0, c1, c2, rfl, h1, h2, h3⟩ := CRs.split xs i u cs h hi
      obtain ⟨d0, d1, d2, rfl, e1, e2, e3⟩ := CR.focus p u y c1 h2 hy
      refine ⟨c0 ++ d0, d1, d2 ++ c2, by simp, ?_, e2, fun m' hl z c1' hz => ?_⟩
      · simp [AV.offP, hi, e1, h1]
      · obtain ⟨x', f1, f2⟩ := e3 m' hl z c1' hz
        refine ⟨.agg (xs.set i x'), by simp [AV.setP, hi, f1], ?_⟩
        simp only [CR]
        have := h3 m' hl x' _ f2
        simpa using this

/-! ### Rows by their places -/

theorem CRrow_iff {m : Mem} {b sz : Nat} : ∀ {xs : List AV} {off : Nat}, CRrow m b sz xs off ↔
    ∀ (i : Nat) x, xs[i]? = some x → ∃ cs, CR m x cs ∧ cs.length = sz ∧ Stand m.h b (off + i * sz) cs
  | [], off => by simp [CRrow]
  | x :: xs, off => by
    simp only [CRrow]
    rw [CRrow_iff]
    constructor
    · rintro ⟨h0, h1⟩ i y hy
      cases i with
      | zero => simp at hy; subst hy; simpa using h0
      | succ i =>
        simp only [List.getElem?_cons_succ] at hy
        have := h1 i y hy
        rwa [show off + sz + i * sz = off + (i + 1) * sz from by rw [Nat.add_mul]; omega] at this
    · intro h
      refine ⟨by simpa using h 0 x rfl, fun i y hy => ?_⟩
      have := h (i + 1) y (by simpa using hy)
      rwa [show off + (i + 1) * sz = off + sz + i * sz from by rw [Nat.add_mul]; omega] at this

theorem Stand.sub {h : Heap} {b off : Nat} {c0 c1 c2 : List Value} (hs : Stand h b off (c0 ++ c1 ++ c2)) : Stand h b (off + c0.length) c1 := by
  obtain ⟨c, e, fr, hb, hc⟩ := hs
  refine ⟨c, e, fr, hb, fun j v hj => ?_⟩
  rw [Nat.add_assoc]
  refine hc (c0.length + j) v ?_
  have hlt := (List.getElem?_eq_some_iff.1 hj).1
  rw [List.append_assoc, List.getElem?_append_right (by omega), show c0.length + j - c0.length = j from by omega, List.getElem?_append_left hlt]
  exact hj

/-- The block of an object: its cells. -/
theorem HeapRel.lt {h : Heap} {L : List AObj} {β : List PO} {S0 W : Nat → Prop} (hr : HeapRel h L β S0 W) {o : Nat} {obj : AObj} {po : PO}
    (h1 : L[o]? = some obj) (h2 : β[o]? = some po) (h3 : obj.nil = false) : po.b < h.size := by
  obtain ⟨c, e, fr, hb, _⟩ := hr.free o obj po h1 h2 h3
  exact (Array.getElem?_eq_some_iff.1 hb).1

theorem HeapRel.po {h : Heap} {L : List AObj} {β : List PO} {S0 W : Nat → Prop} (hr : HeapRel h L β S0 W) {o : Nat} {obj : AObj}
    (h1 : L[o]? = some obj) : ∃ po, β[o]? = some po := by
  have hlt := (List.getElem?_eq_some_iff.1 h1).1
  exact ⟨β[o]'(by rw [hr.len]; exact hlt), List.getElem?_eq_getElem _⟩

/-- A part of an element of an object is read. -/
theorem HeapRel.read {h : Heap} {L : List AObj} {β : List PO} {S0 W : Nat → Prop} (hr : HeapRel h L β S0 W) {o i : Nat} {obj : AObj} {po : PO} {x y : AV} {p : List Nat} {off : Nat}
    (h1 : L[o]? = some obj) (h2 : β[o]? = some po) (h3 : obj.nil = false) (h4 : obj.elems[i]? = some x) (h5 : x.getP p = some y) (h6 : x.offP p = some off) :
    ∃ cs, CR (memOf h L β S0) y cs ∧ Stand h po.b (i * obj.esz + off) cs := by
  obtain ⟨cs, g1, g2, g3⟩ := CRrow_iff.1 (hr.row o obj po h1 h2 h3) i x h4
  obtain ⟨c0, c1, c2, rfl, e1, e2, _⟩ := CR.focus p x y cs g1 h5
  rw [h6] at e1
  simp only [Option.some.injEq] at e1
  subst e1
  simp only [Nat.zero_add] at g3
  exact ⟨c1, e2, g3.sub⟩

/-! ### Writing -/

/-- An object's row is told anew. -/
theorem HeapRel.upd {h h' : Heap} {L : List AObj} {β : List PO} {S0 W : Nat → Prop} (hr : HeapRel h L β S0 W) {o : Nat} {obj obj' : AObj} {po po' : PO}
    (h1 : L[o]? = some obj) (h2 : β[o]? = some po) (hsize : h.size ≤ h'.size)
    (hpo : (po' = po ∧ obj.nil = false ∧ (obj'.fz = false → obj.fz = false)) ∨ h.size ≤ po'.b)
    (hkeep : ∀ b, b < h.size → (obj.nil = true ∨ obj.fz = true ∨ b ≠ po.b) → h'[b]? = h[b]?)
    (hver : (obj'.ver = obj.ver ∧ po' = po ∧ obj'.esz = obj.esz ∧ obj'.nil = obj.nil) ∨ obj.ver < obj'.ver)
    (hnil : obj'.nil = false) (hesz : 0 < obj'.esz) (hS : ¬ S0 po'.b) (hW : obj'.fz = false → W po'.b) (hroom : obj'.elems.length * obj'.esz ≤ po'.n)
    (hfree : Free h' po'.b po'.n) :
    (memOf h L β S0).Le (memOf h' (L.set o obj') (β.set o po') S0) ∧
    (((memOf h L β S0).Le (memOf h' (L.set o obj') (β.set o po') S0) → CRrow (memOf h' (L.set o obj') (β.set o po') S0) po'.b obj'.esz obj'.elems 0) →
      HeapRel h' (L.set o obj') (β.set o po') S0 W) := by
  have hoL := (List.getElem?_eq_some_iff.1 h1).1
  have hoβ := (List.getElem?_eq_some_iff.1 h2).1
  have two : ∀ (o' : Nat) (ob : AObj) (p : PO), (L.set o obj')[o']? = some ob → (β.set o po')[o']? = some p →
      (o' ≠ o ∧ L[o']? = some ob ∧ β[o']? = some p) ∨ (o' = o ∧ ob = obj' ∧ p = po') := fun o' ob p k1 k2 => by
    by_cases ho : o = o'
    · subst ho
      rw [List.getElem?_set_self hoL] at k1
      rw [List.getElem?_set_self hoβ] at k2
      exact .inr ⟨rfl, (Option.some.inj k1).symm, (Option.some.inj k2).symm⟩
    · rw [List.getElem?_set_ne ho] at k1 k2
      exact .inl ⟨fun e => ho e.symm, k1, k2⟩
  have other : ∀ (o' : Nat) (ob : AObj) (p : PO), o' ≠ o → L[o']? = some ob → β[o']? = some p → ob.nil = false → h'[p.b]? = h[p.b]? := fun o' ob p hne k1 k2 k3 => by
    refine hkeep p.b (hr.lt k1 k2 k3) ?_
    by_cases e1 : obj.nil = true
    · exact .inl e1
    · right; right
      intro e
      exact hne (hr.inj o' o ob obj p po k1 h1 k2 h2 k3 (by simpa using e1) e)
  have hle : (memOf h L β S0).Le (memOf h' (L.set o obj') (β.set o po') S0) := by
    refine ⟨fun b hb => ?_, fun b hb hlt => ?_, fun x v hx => ?_, hsize⟩
    · rcases hb with hb | ⟨o', ob, p, k1, k2, k3, k4, k5⟩
      · exact .inl (.inl hb)
      · rcases two o' ob p k1 k2 with ⟨_, k1, k2⟩ | ⟨rfl, rfl, rfl⟩
        · exact .inl (.inr ⟨o', ob, p, k1, k2, k3, k4, k5⟩)
        · rcases hpo with ⟨rfl, e2, e3⟩ | e
          · exact .inl (.inr ⟨o', obj, p, h1, h2, e2, e3 k4, k5⟩)
          · exact .inr (by simp only [memOf]; omega)
    · refine hkeep b hlt ?_
      by_cases e1 : obj.nil = true
      · exact .inl e1
      · by_cases e2 : obj.fz = true
        · exact .inr (.inl e2)
        · right; right
          rintro rfl
          exact hb (.inr ⟨o, obj, po, h1, h2, by simpa using e1, by simpa using e2, rfl⟩)
    · cases x <;> simp only [memOf, ownX] at hx ⊢
      case own oo ver off len =>
        obtain ⟨ob, p, k1, k2, k3, k4⟩ := hx
        by_cases ho : o = oo
        · subst ho
          rw [h1] at k1; rw [h2] at k2
          obtain rfl := Option.some.inj k1
          obtain rfl := Option.some.inj k2
          refine ⟨obj', po', by rw [List.getElem?_set_self hoL], by rw [List.getElem?_set_self hoβ], ?_, fun e => ?_⟩
          · rcases hver with ⟨e, _⟩ | e <;> omega
          · rcases hver with ⟨e1, rfl, e3, e4⟩ | e1
            · have := k4 (by omega)
              rw [e3, e4]; exact this
            · omega
        · exact ⟨ob, p, by rw [List.getElem?_set_ne ho]; exact k1, by rw [List.getElem?_set_ne ho]; exact k2, k3, k4⟩
      case addr oo ver i path off =>
        obtain ⟨ob, p, k1, k2, k3, k4⟩ := hx
        by_cases ho : o = oo
        · subst ho
          rw [h1] at k1; rw [h2] at k2
          obtain rfl := Option.some.inj k1
          obtain rfl := Option.some.inj k2
          refine ⟨obj', po', by rw [List.getElem?_set_self hoL], by rw [List.getElem?_set_self hoβ], ?_, fun e => ?_⟩
          · rcases hver with ⟨e, _⟩ | e <;> omega
          · rcases hver with ⟨e1, rfl, e3, e4⟩ | e1
            · have := k4 (by omega)
              rw [e3, e4]; exact this
            · omega
        · exact ⟨ob, p, by rw [List.getElem?_set_ne ho]; exact k1, by rw [List.getElem?_set_ne ho]; exact k2, k3, k4⟩
  refine ⟨hle, fun hrow0 => ?_⟩
  have hrow := hrow0 hle
  refine ⟨by simp [hr.len], ?_, ?_, ?_, ?_, ?_, ?_, ?_, ?_⟩
  · intro o' ob k1 k2
    by_cases ho : o = o'
    · subst ho
      rw [List.getElem?_set_self hoL] at k1
      obtain rfl := Option.some.inj k1
      rw [hnil] at k2; cases k2
    · rw [List.getElem?_set_ne ho] at k1
      exact hr.nil o' ob k1 k2
  · intro o' ob p k1 k2 k3
    rcases two o' ob p k1 k2 with ⟨_, k1, k2⟩ | ⟨rfl, rfl, rfl⟩
    · exact hr.esz o' ob p k1 k2 k3
    · exact hesz
  · intro o' ob p k1 k2 k3
    rcases two o' ob p k1 k2 with ⟨_, k1, k2⟩ | ⟨rfl, rfl, rfl⟩
    · exact hr.S o' ob p k1 k2 k3
    · exact hS
  · intro o' ob p k1 k2 k3 k4
    rcases two o' ob p k1 k2 with ⟨_, k1, k2⟩ | ⟨rfl, rfl, rfl⟩
    · exact hr.W o' ob p k1 k2 k3 k4
    · exact hW k4
  · intro o' ob p k1 k2 k3
    rcases two o' ob p k1 k2 with ⟨_, k1, k2⟩ | ⟨rfl, rfl, rfl⟩
    · exact hr.room o' ob p k1 k2 k3
    · exact hroom
  · intro o' ob p k1 k2 k3
    rcases two o' ob p k1 k2 with ⟨hne, k1, k2⟩ | ⟨rfl, rfl, rfl⟩
    · exact CRrow.mono_own hle (other o' ob p hne k1 k2 k3) _ _ (hr.row o' ob p k1 k2 k3)
    · exact hrow
  · intro o' ob p k1 k2 k3
    rcases two o' ob p k1 k2 with ⟨hne, k1, k2⟩ | ⟨rfl, rfl, rfl⟩
    · obtain ⟨c, e, fr, hb, hc⟩ := hr.free o' ob p k1 k2 k3
      exact ⟨c, e, fr, by rw [other o' ob p hne k1 k2 k3]; exact hb, hc⟩
    · exact hfree
  · intro o1 o2 ob1 ob2 p1 p2 k1 k1' k2 k2' k3 k3' hb
    rcases two o1 ob1 p1 k1 k2 with ⟨hne, q1, q2⟩ | ⟨e1, e2, e3⟩
    · rcases two o2 ob2 p2 k1' k2' with ⟨hne', q1', q2'⟩ | ⟨e1', e2', e3'⟩
      · exact hr.inj o1 o2 ob1 ob2 p1 p2 q1 q1' q2 q2' k3 k3' hb
      · rw [e3'] at hb
        rcases hpo with ⟨e4, e5, _⟩ | e
        · rw [e4] at hb
          exact absurd (hr.inj o1 o ob1 obj p1 po q1 h1 q2 h2 k3 e5 hb) hne
        · have := hr.lt q1 q2 k3
          omega
    · rcases two o2 ob2 p2 k1' k2' with ⟨hne', q1', q2'⟩ | ⟨e1', e2', e3'⟩
      · rw [e3] at hb
        rcases hpo with ⟨e4, e5, _⟩ | e
        · rw [e4] at hb
          exact absurd (hr.inj o2 o ob2 obj p2 po q1' h1 q2' h2 k3' e5 hb.symm) hne'
        · have := hr.lt q1' q2' k3'
          omega
      · rw [e1, e1']

theorem set_twice {α : Type} (h : Array α) (b : Nat) (x y : α) : (h.setIfInBounds b x).setIfInBounds b y = h.setIfInBounds b y := by
  apply Array.ext
  · simp
  · intro k h1 h2
    simp at h1
    by_cases hk : b = k
    · subst hk; simp
    · rw [Array.getElem_setIfInBounds_ne (by simpa using h1) hk, Array.getElem_setIfInBounds_ne (by simpa using h1) hk, Array.getElem_setIfInBounds_ne (by simpa using h1) hk]

/-- The cells of one row are stored: what the machine does. -/
theorem run_storeCells_free (P : Program) (b o : Nat) (e : TypeId) (fr : Nat × Nat) : ∀ (vs : List Value) (i : Nat) (c : Array Value) (w : World),
    w.heap[b]? = some (.cells c e fr) → o + i + vs.length ≤ c.size → (∀ j, j < c.size → ¬ (fr.1 ≤ j ∧ j < fr.2)) → (∀ v ∈ vs, v.oneCell' = true) →
    ∃ c', (storeCells ⟨b, o, none⟩ vs i).run P w = .ok () { w with heap := w.heap.setIfInBounds b (.cells c' e fr) } ∧ c'.size = c.size ∧
      (∀ (j : Nat) v, vs[j]? = some v → c'[o + i + j]? = some v) ∧ (∀ k, (k < o + i ∨ o + i + vs.length ≤ k) → c'[k]? = c[k]?)
  | [], i, c, w, hb, _, _, _ => by
    refine ⟨c, ?_, rfl, by simp, fun _ _ => rfl⟩
    simp only [storeCells, Sem.run_pure]
    congr 1
    have hlt := (Array.getElem?_eq_some_iff.1 hb).1
    have : w.heap.setIfInBounds b (.cells c e fr) = w.heap := by
      apply Array.ext
      · simp
      · intro k hk1 hk2
        by_cases hk : b = k
        · subst hk
          rw [Array.getElem_setIfInBounds_self]
          exact (Array.getElem?_eq_some_iff.1 hb).2.symm
        · rw [Array.getElem_setIfInBounds_ne hk2 hk]
    rw [this]
  | v :: vs, i, c, w, hb, hle, hfr, hone => by
    have hlt := (Array.getElem?_eq_some_iff.1 hb).1
    simp only [List.length_cons] at hle
    have hadd : (⟨b, o, none⟩ : Addr).add i = ⟨b, o + i, none⟩ := by
      unfold Addr.add
      by_cases h0 : i = 0 <;> simp [h0]
    have hcell : w.cell? ⟨b, o + i, none⟩ = some (c[o + i]'(by omega)) := by
      simp [World.cell?, hb]
    have hfz : w.frozen? ⟨b, o + i, none⟩ = false := by
      have := hfr (o + i) (by omega)
      obtain ⟨lo, hi⟩ := fr
      simp only [World.frozen?, hb]
      simp only at this
      rw [Bool.and_eq_false_iff]
      by_cases h1 : lo ≤ o + i
      · right; simp; omega
      · left; simp; omega
    have hset : w.setCell ⟨b, o + i, none⟩ v = { w with heap := w.heap.setIfInBounds b (.cells (c.setIfInBounds (o + i) v) e fr) } := by
      unfold World.setCell
      congr 1
      apply Array.ext
      · simp
      · intro k hk1 hk2
        simp at hk1
        rw [Array.getElem_modify]
        by_cases hk : b = k
        · subst hk
          rw [if_pos rfl, Array.getElem_setIfInBounds_self]
          rw [(Array.getElem?_eq_some_iff.1 hb).2]
          simp
        · rw [if_neg hk, Array.getElem_setIfInBounds_ne (by omega) hk]
    have hb' : (w.setCell ⟨b, o + i, none⟩ v).heap[b]? = some (.cells (c.setIfInBounds (o + i) v) e fr) := by
      rw [hset]; simp [hlt]
    obtain ⟨c', g1, g2, g3, g4⟩ := run_storeCells_free P b o e fr vs (i + 1) (c.setIfInBounds (o + i) v) _ hb' (by simp; omega) (by simpa using hfr) (fun x hx => hone x (by simp [hx]))
    refine ⟨c', ?_, by simpa using g2, ?_, ?_⟩
    · simp only [storeCells, Sem.run_bind, hadd, run_store P w _ v _ (hone v (by simp)), hcell, hfz, Bool.false_eq_true, if_false, Result.andThen_ok]
      rw [g1, hset]
      dsimp only
      rw [set_twice]
    · intro j u hj
      cases j with
      | zero =>
        simp at hj; subst hj
        rw [Nat.add_zero, g4 (o + i) (by omega)]
        exact Array.getElem?_setIfInBounds_self_of_lt (by omega)
      | succ j =>
        have := g3 j u (by simpa using hj)
        rwa [show o + i + (j + 1) = o + (i + 1) + j from by omega]
    · intro k hk
      simp only [List.length_cons] at hk
      rw [g4 k (by omega), Array.getElem?_setIfInBounds_ne (by omega)]

end Go.Proofs.Ytpneikbihcoaaab.Vm

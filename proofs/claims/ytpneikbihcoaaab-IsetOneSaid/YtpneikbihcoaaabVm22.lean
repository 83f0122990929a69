/- Objects that are written no more: their rows are frozen. -/
import Derived.Test.YtpneikbihcoaaabVm21
namespace Go.Proofs.Ytpneikbihcoaaab.Vm
set_option linter.unusedVariables false
set_option linter.unusedSimpArgs false

variable {c : Ctx} {f : FuncId} {σ : AState} {R : AV → List AObj → Prop} {k : List Item} {a : Act} {w : World} {β : List PO}

theorem CRrow.same {m m' : Mem} (hl : m.Le m') (he : m'.h = m.h) (b sz : Nat) : ∀ (xs : List AV) (off : Nat), CRrow m b sz xs off → CRrow m' b sz xs off
  | [], off, h => by simp [CRrow]
  | x :: xs, off, h => by
    simp only [CRrow] at h ⊢
    obtain ⟨⟨cs, h1, h2, h3⟩, h4⟩ := h
    exact ⟨⟨cs, CR.mono hl x cs h1, h2, by rw [he]; exact h3⟩, CRrow.same hl he b sz xs _ h4⟩

def AObj.cold (obj : AObj) : AObj := { obj with fz := true }

theorem HeapRel.freeze {h : Heap} {L : List AObj} {S0 W : Nat → Prop} (hr : HeapRel h L β S0 W) {o : Nat} {obj : AObj} (h1 : L[o]? = some obj) (hn : obj.nil = false) :
    (memOf h L β S0).Le (memOf h (L.set o obj.cold) β S0) ∧ HeapRel h (L.set o obj.cold) β S0 W := by
  obtain ⟨po, h2⟩ := hr.po h1
  have hset : β.set o po = β := by
    apply List.ext_getElem?
    intro i
    by_cases hi : o = i
    · subst hi
      rw [List.getElem?_set_self (List.getElem?_eq_some_iff.1 h2).1, h2]
    · rw [List.getElem?_set_ne hi]
  obtain ⟨g1, g2⟩ := hr.upd (h' := h) (obj' := obj.cold) (po' := po) h1 h2 (Nat.le_refl _) (.inl ⟨rfl, hn, fun e => by simp [AObj.cold] at e⟩) (fun _ _ _ => rfl)
    (.inl ⟨rfl, rfl, rfl, rfl⟩) hn (hr.esz o obj po h1 h2 hn) (hr.S o obj po h1 h2 hn) (fun e => by simp [AObj.cold] at e) (hr.room o obj po h1 h2 hn) (hr.free o obj po h1 h2 hn)
  rw [hset] at g1 g2
  exact ⟨g1, g2 fun hle => CRrow.same hle rfl _ _ _ _ (hr.row o obj po h1 h2 hn)⟩

/-- What is known of a value that names an object, once that is cold. -/
def frzV (o : Nat) (obj : AObj) : AV → AV
  | .own o' ver off len => if o' = o ∧ ver = obj.ver ∧ off + len ≤ obj.elems.length then .slice ((obj.elems.drop off).take len) else .own o' ver off len
  | .addr o' ver i path off => if o' = o ∧ ver = obj.ver then (match (obj.elems[i]?).bind fun x => if x.offP path = some off then x.getP path else none with
    | some y => .ref y
    | none => .addr o' ver i path off) else .addr o' ver i path off
  | x => x

def frzL (L : List AObj) (o : Nat) (obj : AObj) : List AObj := if obj.nil = true then L else L.set o obj.cold

theorem VR.freeze {h : Heap} {L : List AObj} {S0 W : Nat → Prop} (hr : HeapRel h L β S0 W) {o : Nat} {obj : AObj} (h1 : L[o]? = some obj) (x : AV) (v : Value)
    (hx : VR (memOf h L β S0) x v) : VR (memOf h (frzL L o obj) β S0) (frzV o obj x) v := by
  obtain ⟨po, h2⟩ := hr.po h1
  by_cases hn : obj.nil = true
  · have hL : frzL L o obj = L := by simp [frzL, hn]
    rw [hL]
    have he := hr.nil o obj h1 hn
    cases x <;> simp only [frzV] <;> try exact hx
    case own o' ver off len =>
      split
      · rename_i hc
        obtain ⟨rfl, rfl, hlen⟩ := hc
        rw [he] at hlen
        simp only [List.length_nil] at hlen
        have hx2 := hx.own
        simp only [memOf, ownX] at hx2
        obtain ⟨ob, p, k1, k2, k3, k4⟩ := hx2
        rw [h1] at k1
        obtain rfl := Option.some.inj k1
        have k5 := k4 rfl
        rw [if_pos hn] at k5
        obtain ⟨rfl, rfl, rfl⟩ := k5
        simp only [VR, VR1, CR, he, List.drop_nil, List.take_nil]
        exact ⟨none, 0, rfl, Nat.le_refl _, .inl trivial⟩
      · exact hx
    case addr o' ver i path off =>
      split
      · rw [he]; exact hx
      · exact hx
  · have hn' : obj.nil = false := by simpa using hn
    have hL : frzL L o obj = L.set o obj.cold := by simp [frzL, hn']
    rw [hL]
    obtain ⟨g1, g2⟩ := hr.freeze h1 hn'
    have hmono := VR.mono g1 _ _ hx
    have hcold : (L.set o obj.cold)[o]? = some obj.cold := List.getElem?_set_self (List.getElem?_eq_some_iff.1 h1).1
    have hS : ¬ (memOf h (L.set o obj.cold) β S0).S po.b := by
      rintro (hb | ⟨o', ob, p, k1, k2, k3, k4, k5⟩)
      · exact hr.S o obj po h1 h2 hn' hb
      · have := g2.inj o' o ob obj.cold p po k1 hcold k2 h2 k3 hn' k5
        subst this
        rw [hcold] at k1
        obtain rfl := Option.some.inj k1
        simp [AObj.cold] at k4
    cases x <;> simp only [frzV] <;> try exact hmono
    case own o' ver off len =>
      split
      · rename_i hc
        obtain ⟨rfl, rfl, hlen⟩ := hc
        have hx2 := hx.own
        simp only [memOf, ownX] at hx2
        obtain ⟨ob, p, k1, k2, k3, k4⟩ := hx2
        rw [h1] at k1; rw [h2] at k2
        obtain rfl := Option.some.inj k1
        obtain rfl := Option.some.inj k2
        have k5 := k4 rfl
        rw [if_neg hn] at k5
        obtain ⟨ad, cap, rfl, q1, q2, q3, q4, q5⟩ := k5
        have hl : ((obj.elems.drop off).take len).length = len := by simp; omega
        simp only [VR, VR1, CR, hl]
        refine ⟨_, _, rfl, q3, ?_⟩
        by_cases hlen0 : len = 0
        · left
          subst hlen0
          exact List.eq_nil_of_length_eq_zero hl
        · right
          refine ⟨ad, obj.esz, rfl, q2, by rw [q1]; exact hS, ?_⟩
          rw [q1, q4 (by omega)]
          have hrow := (g2.row o' obj.cold po hcold h2 hn').take off len
          simpa [AObj.cold] using hrow
      · exact hmono
    case addr o' ver i path off =>
      split
      · rename_i hc
        obtain ⟨rfl, rfl⟩ := hc
        split
        · rename_i y hy
          simp only [Option.bind_eq_some_iff] at hy
          obtain ⟨x, hx1, hy⟩ := hy
          split at hy
          · rename_i hoff
            obtain ⟨cs, e1, e2⟩ := g2.read hcold h2 hn' (by simpa [AObj.cold] using hx1) hy hoff
            have hx2 := hx.addr
            simp only [memOf, ownX] at hx2
            obtain ⟨ob, p, k1, k2, k3, k4⟩ := hx2
            rw [h1] at k1; rw [h2] at k2
            obtain rfl := Option.some.inj k1
            obtain rfl := Option.some.inj k2
            obtain ⟨_, rfl⟩ := k4 rfl
            simp only [VR, VR1, CR]
            exact ⟨_, cs, rfl, rfl, hS, e1, e2⟩
          · cases hy
        · exact hmono
      · exact hmono

theorem Rel.freeze (h : Rel c σ a w β) {o : Nat} {obj : AObj} (h1 : σ.L[o]? = some obj) : Rel c ⟨fun i => frzV o obj (σ.env i), frzL σ.L o obj⟩ a w β := by
  refine ⟨h.defers, h.size, fun i => VR.freeze h.heap h1 _ _ (h.env i), ?_, h.ext, h.S0, ?_⟩
  · by_cases hn : obj.nil = true
    · simp only [frzL, hn, if_true]; exact h.heap
    · have hn' : obj.nil = false := by simpa using hn
      simp only [frzL, hn', Bool.false_eq_true, if_false]; exact (h.heap.freeze h1 hn').2
  · by_cases hn : obj.nil = true
    · simp only [frzL, hn, if_true]; exact h.le
    · have hn' : obj.nil = false := by simpa using hn
      simp only [frzL, hn', Bool.false_eq_true, if_false]; exact h.le.trans (h.heap.freeze h1 hn').1

theorem AGo.freeze (o : Nat) {obj : AObj} (h1 : σ.L[o]? = some obj) (h : AGo c f k ⟨fun i => frzV o obj (σ.env i), frzL σ.L o obj⟩ R) : AGo c f k σ R :=
  fun b a w β cs e1 e2 hr => h b a w β cs e1 e2 (hr.freeze h1)

theorem AOps.freeze (o : Nat) {obj : AObj} {ops : Array Oper} {l : List Oper} {K : AState → Prop} (h1 : σ.L[o]? = some obj) (h : AOps c ops l ⟨fun i => frzV o obj (σ.env i), frzL σ.L o obj⟩ K) :
    AOps c ops l σ K :=
  fun a w β hr => h a w β (hr.freeze h1)

/-- An operation whose effect is known. -/
theorem AOps.good {P : Program} {n : Nat} (hP : c.P = P) (hn : c.n = n) {ops : Array Oper} {o : Oper} {rest : List Oper} {K : AState → Prop} {x : AV} {L' : List AObj}
    (hgood : ∀ (a : Act) (w : World) (β : List PO), Rel c σ a w β → Good c σ.L β w x L' ((execOp a.eval o).run c.P w))
    (hw : (awanted ops σ.env o == some true && guardOk n ops o && dstOk n o.dst) = true)
    (h : match runTo P n ops rest ⟨updO σ.env o.dst x, L'⟩ with | some (σ', l') => AOps c ops l' σ' K | none => False) : AOps c ops (o :: rest) σ K := by
  subst hP hn
  simp only [Bool.and_eq_true, beq_iff_eq] at hw
  intro a w β hr
  refine wpList_step fun K' hK => ?_
  rw [if_pos (awanted_sound hr hw.1.1 (guardOk_sound hw.1.2))]
  obtain ⟨n, v, w', β', e1, e2, e3, e4, e5, e6⟩ := hgood a w β hr
  have hd' : ∀ i, o.dst = some i → i < c.n := fun i hi => by have := hw.2; rw [hi] at this; simpa [dstOk] using this
  have hrel : Rel c ⟨updO σ.env o.dst x, L'⟩ (a.put o.dst v) w' β' := hr.step o.dst e3 e4 e5 hd' e6
  unfold Oper.wp
  rw [e1]
  rcases e2 with rfl | ⟨rfl, rfl⟩
  · simp only [Oper.upon_value]
    exact hK _ _ (AOps.to h _ _ _ hrel)
  · simp only [Oper.upon_skip]
    exact hK _ _ (AOps.to h _ _ _ hrel)

theorem CRs.row {m : Mem} {b esz : Nat} : ∀ (xs : List AV) (cs : List Value) (off : Nat), CRs m xs cs → xs.all (·.size == esz) = true → Stand m.h b off cs → CRrow m b esz xs off
  | [], _, _, _, _, _ => by simp [CRrow]
  | x :: xs, cs, off, h, ha, hs => by
    simp only [CRs] at h
    obtain ⟨c1, c2, rfl, h1, h2⟩ := h
    simp only [List.all_cons, Bool.and_eq_true, beq_iff_eq] at ha
    have hl : c1.length = esz := by rw [CR.length _ _ h1]; exact ha.1
    simp only [CRrow]
    refine ⟨⟨c1, h1, hl, ?_⟩, CRs.row xs c2 (off + esz) h2 ha.2 ?_⟩
    · have := Stand.sub (c0 := []) (c1 := c1) (c2 := c2) (by simpa using hs)
      simpa using this
    · have := Stand.sub (c0 := c1) (c1 := c2) (c2 := []) (by simpa using hs)
      simpa [hl] using this

/-- All of an array that is written no more. -/
theorem good_slice_arr (h : Rel c σ a w β) {t : TypeId} {x : Operand} {o : Oper} {e esz l n : Nat} {xs : List AV} (ho : o.op = .slice t x none none none)
    (ht : tk c.P t = some (.arr l e esz, n)) (hx : σ.rd x = .ref (.agg xs)) (hall : xs.all (·.size == esz) = true) (hpos : 0 < esz) (hlen : xs.length = l) (hl : 0 < l) :
    Good c σ.L β w (.slice xs) σ.L ((execOp a.eval o).run c.P w) := by
  obtain ⟨hu, hcell⟩ := tk_arr ht
  obtain ⟨hcell, _⟩ := hcell (by omega)
  have hv : VR (memOf w.heap σ.L β c.S0) (.ref (.agg xs)) (a.eval x) := hx ▸ h.rd x
  simp only [VR, VR1, CR] at hv
  obtain ⟨ad, c1, e1, e2, e3, e4, e5⟩ := hv
  have e1 : a.eval x = .pointer (some ad) := by simpa using e1
  have hsize : ∀ w, (sizeOf e).run c.P w = .ok esz w := fun w => by rw [hcell]; exact run_sizeOf_cells (by omega) w
  have hb := (bounds_sound h false (lo := none) (hi := none) (len := l) (cap := l) (Nat.le_refl _) rfl rfl).1
  refine Good.pure h (v := .slice (some (ad.add (0 * esz))) (l - 0) (l - 0)) ?_ ?_
  · simp [execOp, ho, Instr.sliceAt, run_und hu, e1, Instr.sureAddr, hsize]
    rw [show (Instr.sliceBounds false l l none none none).run c.P w = .ok (0, l, l) w from hb]
    simp
    omega
  · simp only [VR, VR1, CR]
    refine ⟨_, _, by rw [hlen]; rfl, by omega, .inr ⟨_, esz, rfl, ?_, ?_, ?_⟩⟩
    · rw [Addr.add_spot e2]
    · rw [Addr.add_spot e2]; exact e3
    · rw [Addr.add_spot e2]
      simpa using CRs.row xs c1 _ e4 hall e5

end Go.Proofs.Ytpneikbihcoaaab.Vm

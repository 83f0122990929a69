/- Contracts turned to other ends: a row told as a slice; what names a cold object told by its content, however deep. -/
import Derived.Test.YtpneikbihcoaaaaVm25
namespace Go.Proofs.Ytpneikbihcoaaaa.Vm
set_option linter.unusedVariables false
set_option linter.unusedSimpArgs false

variable {c : Ctx} {f : FuncId} {σ : AState} {R : AV → List AObj → Prop} {k : List Item} {a : Act} {w : World} {β : List PO}

/-! ### What a call gives, told otherwise -/

theorem ACall.exportsTo {P : Program} {args : List AV} {L : List AObj} {R R' : AV → List AObj → Prop} (h : ACall P f args L R)
    (hx : ∀ (c : Ctx) (σ : AState) (r : AV), c.L0 = L → R r σ.L → Exports c σ r R') : ACall P f args L R' := by
  refine ⟨h.1, fun w β S0 W vals h1 h2 h3 h4 => (h.2 w β S0 W vals h1 h2 h3 h4).mono ?_⟩
  rintro e w' ⟨v, β', r, L', rfl, hR, hle, hheap, hext, hv⟩
  have hrel : Rel ⟨P, 0, w, S0, W, L, β⟩ ⟨fun _ => .any, L'⟩ ⟨#[], []⟩ w' β' :=
    ⟨rfl, rfl, fun i => VR.any _, hheap.monoW fun b hb => .inr hb, ⟨hext.os, hext.tape, hext.output, hext.size, hext.block⟩, h1, hle⟩
  obtain ⟨r', L2, β2, g1, g2, g3, g4, g5⟩ := hx ⟨P, 0, w, S0, W, L, β⟩ ⟨fun _ => .any, L'⟩ r rfl hR _ w' β' v hrel hv
  refine ⟨v, β2, r', L2, rfl, g1, g2, g3.monoW ?_, ⟨g4.os, g4.tape, g4.output, g4.size, g4.block⟩, g5⟩
  rintro b (hb | hb)
  · exact h2 b hb
  · exact hb

theorem Exports.freeze {r : AV} (o : Nat) {obj : AObj} (h1 : σ.L[o]? = some obj) (h : Exports c ⟨fun i => frzV o obj (σ.env i), frzL σ.L o obj⟩ (frzV o obj r) R) : Exports c σ r R :=
  fun a w β v hrel hv => h a w β v (hrel.freeze h1) (VR.freeze hrel.heap h1 _ _ hv)

/-- A row of the function's own, told as a slice. -/
theorem ACall.froze {P : Program} {args : List AV} {L : List AObj} {R : AV → List AObj → Prop} {xs : List AV} (h : ACall P f args L R) (hw : WFL L) (hcl : AV.closedL xs = true)
    (hR : ∀ r L', R r L' → ∃ ver len obj, r = .own L.length ver 0 len ∧ L' = L ++ [obj] ∧ obj.ver = ver ∧ len = xs.length ∧ obj.elems = xs) : ACall P f args L (Is (.slice xs) L) := by
  refine h.exportsTo fun c σ r hL hr => ?_
  obtain ⟨ver, len, obj, rfl, hσ, rfl, rfl, hel⟩ := hR _ _ hr
  have h1 : σ.L[L.length]? = some obj := by rw [hσ]; simp
  refine Exports.freeze L.length h1 ?_
  have hf : frzV L.length obj (.own L.length obj.ver 0 xs.length) = .slice xs := by
    simp [frzV, hel]
  rw [hf]
  obtain ⟨M, hM⟩ : ∃ M, frzL σ.L L.length obj = L ++ M := by
    rw [hσ]
    unfold frzL
    split
    · exact ⟨[obj], rfl⟩
    · exact ⟨[obj.cold], by simp⟩
  exact Exports.plain (M := M) (by rw [hL]; exact hM) (by rw [hL]; exact hw) (by simpa [AV.closed] using hcl) ⟨rfl, by rw [hL]⟩

/-- Arguments that are told less of. -/
theorem ACall.less {P : Program} {args args' : List AV} {L : List AObj} (h : ACall P f args' L R) (hl : ∀ m vs, VRs m args vs → VRs m args' vs) : ACall P f args L R :=
  ⟨h.1, fun w β S0 W vals h1 h2 h3 h4 => h.2 w β S0 W vals h1 h2 h3 (hl _ _ h4)⟩

theorem VR1.nil {m : Mem} {v : Value} (h : VR1 m .nilS v) : VR1 m (.slice []) v := by
  simp only [VR1, CR] at h ⊢
  obtain rfl := List.singleton_inj.1 h
  exact ⟨none, 0, rfl, by simp, by simp⟩

theorem ACall.nil1 {P : Program} {as : List AV} {L : List AObj} (h : ACall P f (.slice [] :: as) L R) : ACall P f (.nilS :: as) L R :=
  h.less fun m vs ⟨v, vs', h1, h2, h3⟩ => ⟨v, vs', h1, h2.nil, h3⟩

theorem ACall.nil2 {P : Program} {x : AV} {as : List AV} {L : List AObj} (h : ACall P f (x :: .slice [] :: as) L R) : ACall P f (x :: .nilS :: as) L R :=
  h.less fun m vs ⟨v, vs', h1, h2, v2, vs2, h3, h4, h5⟩ => ⟨v, vs', h1, h2, v2, vs2, h3, h4.nil, h5⟩

/-! ### A loop over states of any kind -/

theorem AGo.loopS {α : Type} {x : Code} (I : α → Prop) (μ : α → Nat) (ps : List Nat) (V : α → List AV) (H : α → List AObj) (s0 : α) (h0 : ps.map σ.env = V s0) (hL : σ.L = H s0) (hI : I s0)
    (hstep : ∀ s, I s → (∀ s', μ s' < μ s → I s' → AGo c f (.inLoop x :: k) ⟨lk (ps.zip (V s')), H s'⟩ R) → AGo c f (.code x :: .inLoop x :: k) ⟨lk (ps.zip (V s)), H s⟩ R) :
    AGo c f (.code (.loop x) :: k) σ R := by
  have key : ∀ n s, μ s < n → I s → AGo c f (.code x :: .inLoop x :: k) ⟨lk (ps.zip (V s)), H s⟩ R := by
    intro n
    induction n with
    | zero => intro s hs; omega
    | succ n ih => intro s hs hI; exact hstep s hI fun s' h1 h2 => AGo.inLoop (ih s' (by omega) h2)
  exact AGo.loop (AGo.again (key _ s0 (Nat.lt_succ_self _) hI) h0 hL)

/-! ### However deep -/

mutual
def AV.frz (o : Nat) (obj : AObj) : AV → AV
  | .agg xs => .agg (AV.frzs o obj xs)
  | .tup xs => .tup (AV.frzs o obj xs)
  | .slice xs => .slice (AV.frzs o obj xs)
  | .ref x => .ref (AV.frz o obj x)
  | .own o' ver off len => frzV o obj (.own o' ver off len)
  | x => x
def AV.frzs (o : Nat) (obj : AObj) : List AV → List AV
  | [] => []
  | x :: xs => AV.frz o obj x :: AV.frzs o obj xs
end

@[simp] theorem AV.frzs_len (o : Nat) (obj : AObj) : ∀ xs, (AV.frzs o obj xs).length = xs.length
  | [] => rfl
  | x :: xs => by simp [AV.frzs, AV.frzs_len o obj xs]

mutual
theorem AV.frz_closed (o : Nat) (obj : AObj) : ∀ x : AV, x.closed = true → x.frz o obj = x
  | .any, h => rfl
  | .int .., h => rfl
  | .bool _, h => rfl
  | .str _, h => rfl
  | .nilS, h => rfl
  | .nilP, h => rfl
  | .agg xs, h => by simp only [AV.closed] at h; simp [AV.frz, AV.frzs_closed o obj xs h]
  | .tup xs, h => by simp only [AV.closed] at h; simp [AV.frz, AV.frzs_closed o obj xs h]
  | .slice xs, h => by simp only [AV.closed] at h; simp [AV.frz, AV.frzs_closed o obj xs h]
  | .ref x, h => by simp only [AV.closed] at h; simp [AV.frz, AV.frz_closed o obj x h]
  | .fn f xs, h => rfl
  | .own .., h => by simp [AV.closed] at h
  | .addr .., h => rfl
theorem AV.frzs_closed (o : Nat) (obj : AObj) : ∀ xs : List AV, AV.closedL xs = true → AV.frzs o obj xs = xs
  | [], h => rfl
  | x :: xs, h => by
    simp only [AV.closedL, Bool.and_eq_true] at h
    simp [AV.frzs, AV.frz_closed o obj x h.1, AV.frzs_closed o obj xs h.2]
end

section
variable {h : Heap} {L : List AObj} {S0 W : Nat → Prop}

theorem frzL_cold {o : Nat} {obj : AObj} (h1 : L[o]? = some obj) (hz : obj.fz = true) : frzL L o obj = L := by
  unfold frzL
  split
  · rfl
  · apply List.ext_getElem?
    intro i
    by_cases hi : o = i
    · subst hi
      rw [List.getElem?_set_self (List.getElem?_eq_some_iff.1 h1).1, h1]
      congr 1
      cases obj
      simp_all [AObj.cold]
    · rw [List.getElem?_set_ne hi]

theorem CR.cold (hr : HeapRel h L β S0 W) {o : Nat} {obj : AObj} (h1 : L[o]? = some obj) (hz : obj.fz = true) {o' ver off len : Nat} {cs : List Value}
    (hx : CR (memOf h L β S0) (.own o' ver off len) cs) : CR (memOf h L β S0) (frzV o obj (.own o' ver off len)) cs := by
  obtain ⟨v, rfl, h2, h3⟩ := hx
  have h4 : VR (memOf h L β S0) (.own o' ver off len) v := by
    simp only [VR, VR1, CR]; exact ⟨v, rfl, h2, h3⟩
  have h5 := VR.freeze hr h1 _ _ h4
  rw [frzL_cold h1 hz] at h5
  refine CR.of_one ?_ h5
  simp only [frzV]
  split <;> rfl

mutual
theorem CR.frz (hr : HeapRel h L β S0 W) {o : Nat} {obj : AObj} (h1 : L[o]? = some obj) (hz : obj.fz = true) : ∀ (x : AV) (cs : List Value), CR (memOf h L β S0) x cs → CR (memOf h L β S0) (x.frz o obj) cs
  | .any, cs, h => h
  | .int k n, cs, h => h
  | .bool b, cs, h => h
  | .str s, cs, h => h
  | .nilS, cs, h => h
  | .nilP, cs, h => h
  | .tup xs, cs, h => by simp [CR] at h
  | .agg xs, cs, h => by simp only [AV.frz, CR] at h ⊢; exact CRs.frz hr h1 hz xs cs h
  | .slice xs, cs, h => by
    simp only [AV.frz, CR, AV.frzs_len] at h ⊢
    obtain ⟨a, cap, g1, g2, g3⟩ := h
    refine ⟨a, cap, g1, g2, ?_⟩
    rcases g3 with g3 | ⟨ad, sz, g4, g5, g6, g7⟩
    · left; rw [g3]; rfl
    · exact .inr ⟨ad, sz, g4, g5, g6, CRrow.frz hr h1 hz _ _ xs _ g7⟩
  | .ref x, cs, h => by
    simp only [AV.frz, CR] at h ⊢
    obtain ⟨ad, c1, g1, g2, g3, g4, g5⟩ := h
    exact ⟨ad, c1, g1, g2, g3, CR.frz hr h1 hz x c1 g4, g5⟩
  | .fn f caps, cs, h => h
  | .own o' ver off len, cs, h => by simp only [AV.frz]; exact CR.cold hr h1 hz h
  | .addr o' ver i path off, cs, h => h
theorem CRs.frz (hr : HeapRel h L β S0 W) {o : Nat} {obj : AObj} (h1 : L[o]? = some obj) (hz : obj.fz = true) : ∀ (xs : List AV) (cs : List Value), CRs (memOf h L β S0) xs cs → CRs (memOf h L β S0) (AV.frzs o obj xs) cs
  | [], cs, h => h
  | x :: xs, cs, h => by
    simp only [AV.frzs, CRs] at h ⊢
    obtain ⟨c1, c2, g1, g2, g3⟩ := h
    exact ⟨c1, c2, g1, CR.frz hr h1 hz x c1 g2, CRs.frz hr h1 hz xs c2 g3⟩
theorem CRrow.frz (hr : HeapRel h L β S0 W) {o : Nat} {obj : AObj} (h1 : L[o]? = some obj) (hz : obj.fz = true) (b sz : Nat) : ∀ (xs : List AV) (off : Nat), CRrow (memOf h L β S0) b sz xs off → CRrow (memOf h L β S0) b sz (AV.frzs o obj xs) off
  | [], off, h => h
  | x :: xs, off, h => by
    simp only [AV.frzs, CRrow] at h ⊢
    obtain ⟨⟨cs, g1, g2, g3⟩, g4⟩ := h
    exact ⟨⟨cs, CR.frz hr h1 hz x cs g1, g2, g3⟩, CRrow.frz hr h1 hz b sz xs _ g4⟩
end

theorem VR1.frz (hr : HeapRel h L β S0 W) {o : Nat} {obj : AObj} (h1 : L[o]? = some obj) (hz : obj.fz = true) (x : AV) (v : Value) (hx : VR1 (memOf h L β S0) x v) : VR1 (memOf h L β S0) (x.frz o obj) v := by
  cases x <;> try exact hx
  case agg xs =>
    obtain ⟨cs, g1, g2⟩ := hx
    exact ⟨cs, g1, CRs.frz hr h1 hz xs cs g2⟩
  case slice xs => exact CR.frz hr h1 hz (.slice xs) [v] hx
  case ref x => exact CR.frz hr h1 hz (.ref x) [v] hx
  case own o' ver off len =>
    have := CR.cold hr h1 hz (o' := o') (ver := ver) (off := off) (len := len) (cs := [v]) hx
    simp only [AV.frz]
    revert this
    simp only [frzV]
    split <;> exact fun h => h

theorem VRs.frz (hr : HeapRel h L β S0 W) {o : Nat} {obj : AObj} (h1 : L[o]? = some obj) (hz : obj.fz = true) : ∀ (xs : List AV) (vs : List Value), VRs (memOf h L β S0) xs vs → VRs (memOf h L β S0) (AV.frzs o obj xs) vs
  | [], vs, h => h
  | x :: xs, vs, ⟨v, vs', g1, g2, g3⟩ => ⟨v, vs', g1, VR1.frz hr h1 hz x v g2, VRs.frz hr h1 hz xs vs' g3⟩

theorem VR.frz (hr : HeapRel h L β S0 W) {o : Nat} {obj : AObj} (h1 : L[o]? = some obj) (hz : obj.fz = true) (x : AV) (v : Value) (hx : VR (memOf h L β S0) x v) : VR (memOf h L β S0) (x.frz o obj) v := by
  by_cases ht : ∃ xs, x = .tup xs
  · obtain ⟨xs, rfl⟩ := ht
    obtain ⟨vs, g1, g2⟩ := hx
    exact ⟨vs, g1, VRs.frz hr h1 hz xs vs g2⟩
  · have h2 : VR1 (memOf h L β S0) x v := by cases x <;> first | exact hx | exact absurd ⟨_, rfl⟩ ht
    have h3 := VR1.frz hr h1 hz x v h2
    cases x <;> try exact h3
    case tup xs => exact absurd ⟨_, rfl⟩ ht
    case own o' ver off len =>
      simp only [AV.frz, frzV] at h3 ⊢
      split at h3 <;> (rename_i hc; first | rw [if_pos hc] | rw [if_neg hc]) <;> exact h3

def AObj.frz (o : Nat) (obj : AObj) (ob : AObj) : AObj := { ob with elems := AV.frzs o obj ob.elems }

theorem frz_get {o i : Nat} {obj ob : AObj} (hi : (L.map (AObj.frz o obj))[i]? = some ob) : ∃ ob0, L[i]? = some ob0 ∧ ob = AObj.frz o obj ob0 := by
  rw [List.getElem?_map] at hi
  cases hL : L[i]? with
  | none => rw [hL] at hi; cases hi
  | some x => rw [hL] at hi; exact ⟨x, rfl, (Option.some.inj hi).symm⟩

theorem memOf_frz (o : Nat) (obj : AObj) : memOf h (L.map (AObj.frz o obj)) β S0 = memOf h L β S0 := by
  have hB : ∀ b, ownB (L.map (AObj.frz o obj)) β b ↔ ownB L β b := fun b => by
    constructor
    · rintro ⟨i, ob, po, g1, g2, g3, g4, g5⟩
      obtain ⟨ob0, k1, rfl⟩ := frz_get g1
      exact ⟨i, ob0, po, k1, g2, g3, g4, g5⟩
    · rintro ⟨i, ob, po, g1, g2, g3, g4, g5⟩
      exact ⟨i, AObj.frz o obj ob, po, by rw [List.getElem?_map, g1]; rfl, g2, g3, g4, g5⟩
  have hX : ∀ x v, ownX (L.map (AObj.frz o obj)) β x v ↔ ownX L β x v := fun x v => by
    cases x <;> simp only [ownX]
    case own o' ver off len =>
      constructor
      · rintro ⟨ob, po, g1, g2, g3, g4⟩
        obtain ⟨ob0, k1, rfl⟩ := frz_get g1
        exact ⟨ob0, po, k1, g2, g3, g4⟩
      · rintro ⟨ob, po, g1, g2, g3, g4⟩
        exact ⟨AObj.frz o obj ob, po, by rw [List.getElem?_map, g1]; rfl, g2, g3, g4⟩
    case addr o' ver i path off =>
      constructor
      · rintro ⟨ob, po, g1, g2, g3, g4⟩
        obtain ⟨ob0, k1, rfl⟩ := frz_get g1
        exact ⟨ob0, po, k1, g2, g3, g4⟩
      · rintro ⟨ob, po, g1, g2, g3, g4⟩
        exact ⟨AObj.frz o obj ob, po, by rw [List.getElem?_map, g1]; rfl, g2, g3, g4⟩
  unfold memOf
  congr 1
  · funext b; rw [hB b]
  · funext x v; exact propext (hX x v)

theorem HeapRel.frz (hr : HeapRel h L β S0 W) {o : Nat} {obj : AObj} (h1 : L[o]? = some obj) (hz : obj.fz = true) : HeapRel h (L.map (AObj.frz o obj)) β S0 W := by
  refine ⟨by rw [List.length_map]; exact hr.len, fun i ob g1 g2 => ?_, fun i ob po g1 g2 g3 => ?_, fun i ob po g1 g2 g3 => ?_, fun i ob po g1 g2 g3 g4 => ?_, fun i ob po g1 g2 g3 => ?_, fun i ob po g1 g2 g3 => ?_,
    fun i ob po g1 g2 g3 => ?_, fun i j ob ob' po po' g1 g2 g3 g4 g5 g6 g7 => ?_⟩
  · obtain ⟨ob0, k1, rfl⟩ := frz_get g1
    have := hr.nil i ob0 k1 g2
    simp [AObj.frz, this, AV.frzs]
  · obtain ⟨ob0, k1, rfl⟩ := frz_get g1; exact hr.esz i ob0 po k1 g2 g3
  · obtain ⟨ob0, k1, rfl⟩ := frz_get g1; exact hr.S i ob0 po k1 g2 g3
  · obtain ⟨ob0, k1, rfl⟩ := frz_get g1; exact hr.W i ob0 po k1 g2 g3 g4
  · obtain ⟨ob0, k1, rfl⟩ := frz_get g1
    have := hr.room i ob0 po k1 g2 g3
    simpa [AObj.frz] using this
  · obtain ⟨ob0, k1, rfl⟩ := frz_get g1
    rw [memOf_frz]
    exact CRrow.frz hr h1 hz _ _ _ _ (hr.row i ob0 po k1 g2 g3)
  · obtain ⟨ob0, k1, rfl⟩ := frz_get g1; exact hr.free i ob0 po k1 g2 g3
  · obtain ⟨ob0, k1, rfl⟩ := frz_get g1
    obtain ⟨ob1, k2, rfl⟩ := frz_get g2
    exact hr.inj i j ob0 ob1 po po' k1 k2 g3 g4 g5 g6 g7
end

theorem Rel.frz (h : Rel c σ a w β) {o : Nat} {obj : AObj} (h1 : σ.L[o]? = some obj) (hz : obj.fz = true) : Rel c ⟨fun i => (σ.env i).frz o obj, σ.L.map (AObj.frz o obj)⟩ a w β := by
  refine ⟨h.defers, h.size, fun i => ?_, h.heap.frz h1 hz, h.ext, h.S0, ?_⟩
  · rw [memOf_frz]; exact VR.frz h.heap h1 hz _ _ (h.env i)
  · rw [memOf_frz]; exact h.le

/-- A cold object's content wherever it is named. -/
theorem AGo.frz (o : Nat) {obj : AObj} (h1 : σ.L[o]? = some obj) (hz : obj.fz = true) (h : AGo c f k ⟨fun i => (σ.env i).frz o obj, σ.L.map (AObj.frz o obj)⟩ R) : AGo c f k σ R :=
  fun b a w β cs e1 e2 hr => h b a w β cs e1 e2 (hr.frz h1 hz)

theorem AOps.frz (o : Nat) {obj : AObj} {ops : Array Oper} {l : List Oper} {K : AState → Prop} (h1 : σ.L[o]? = some obj) (hz : obj.fz = true)
    (h : AOps c ops l ⟨fun i => (σ.env i).frz o obj, σ.L.map (AObj.frz o obj)⟩ K) : AOps c ops l σ K :=
  fun a w β hr => h a w β (hr.frz h1 hz)

end Go.Proofs.Ytpneikbihcoaaaa.Vm

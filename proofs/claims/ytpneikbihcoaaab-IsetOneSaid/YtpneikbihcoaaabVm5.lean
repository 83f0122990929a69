/- What an operation gives is what the machine does: operations that read. -/
import Derived.Test.YtpneikbihcoaaabVm4
import Derived.ChangeKeysEq
namespace Go.Proofs.Ytpneikbihcoaaab.Vm
set_option linter.unusedVariables false
set_option linter.unusedSimpArgs false

/-- What comes of an operation: its value, and a memory that knows what was known. -/
def Good (c : Ctx) (L : List AObj) (β : List PO) (w : World) (x : AV) (L' : List AObj) (r : Result Next) : Prop :=
  ∃ n v w' β', r = .ok n w' ∧ (n = .value v ∨ (n = .skip ∧ v = undef)) ∧ (memOf w.heap L β c.S0).Le (memOf w'.heap L' β' c.S0) ∧
    HeapRel w'.heap L' β' c.S0 c.W ∧ Ext c w' ∧ VR (memOf w'.heap L' β' c.S0) x v

variable {c : Ctx} {σ : AState} {a : Act} {w : World} {β : List PO}

theorem Good.pure (h : Rel c σ a w β) {x : AV} {v : Value} {r : Result Next} (hr : r = .ok (.value v) w) (hv : VR (memOf w.heap σ.L β c.S0) x v) :
    Good c σ.L β w x σ.L r :=
  ⟨_, v, w, β, hr, .inl rfl, Mem.Le.refl _, h.heap, h.ext, hv⟩

theorem VR.ofV (m : Mem) (v : Value) : VR m (AV.ofV v) v := by
  unfold AV.ofV
  split <;> simp [VR, VR1, CR]

theorem Rel.rd (h : Rel c σ a w β) (x : Operand) : VR (memOf w.heap σ.L β c.S0) (σ.rd x) (a.eval x) := by
  cases x with
  | tmp t => exact h.env t
  | const v => exact VR.ofV _ v
  | global g => exact VR.any _
  | func f =>
    simp only [AState.rd, Act.eval, VR, VR1, CR]
    exact ⟨[], rfl, by simp [CRcaps]⟩

/-! What a value is, by what is known of it. -/
theorem VR.int {m : Mem} {k : IntKind} {n : Int} {v : Value} (h : VR m (.int k n) v) : v = .int k n := by simpa [VR, VR1, CR] using h
theorem VR.bool {m : Mem} {b : Bool} {v : Value} (h : VR m (.bool b) v) : v = .bool b := by simpa [VR, VR1, CR] using h
theorem VR.str {m : Mem} {s : ByteArray} {v : Value} (h : VR m (.str s) v) : v = .string s := by simpa [VR, VR1, CR] using h
theorem VR.nilS {m : Mem} {v : Value} (h : VR m .nilS v) : v = .slice none 0 0 := by simpa [VR, VR1, CR] using h
theorem VR.nilP {m : Mem} {v : Value} (h : VR m .nilP v) : v = .pointer none := by simpa [VR, VR1, CR] using h
theorem VR.mk_int (m : Mem) (k : IntKind) (n : Int) : VR m (.int k n) (.int k n) := by simp [VR, VR1, CR]
theorem VR.mk_bool (m : Mem) (b : Bool) : VR m (.bool b) (.bool b) := by simp [VR, VR1, CR]
theorem VR.mk_str (m : Mem) (s : ByteArray) : VR m (.str s) (.string s) := by simp [VR, VR1, CR]
theorem VR.agg {m : Mem} {xs : List AV} {v : Value} (h : VR m (.agg xs) v) : ∃ cs : List Value, v = .agg cs.toArray ∧ CRs m xs cs := by simpa [VR, VR1] using h
theorem VR.tup {m : Mem} {xs : List AV} {v : Value} (h : VR m (.tup xs) v) : ∃ vs : List Value, v = .tuple vs.toArray ∧ VRs m xs vs := by simpa [VR] using h
theorem VR.slice {m : Mem} {xs : List AV} {v : Value} (h : VR m (.slice xs) v) : ∃ a cap, v = .slice a xs.length cap ∧ xs.length ≤ cap ∧
      (xs = [] ∨ ∃ ad sz, a = some ad ∧ ad.spot = none ∧ ¬ m.S ad.block ∧ CRrow m ad.block sz xs ad.off) := by
  simp only [VR, VR1, CR] at h
  obtain ⟨a, cap, h1, h2⟩ := h
  exact ⟨a, cap, by simpa using h1, h2⟩
theorem VR.ref {m : Mem} {x : AV} {v : Value} (h : VR m (.ref x) v) : ∃ ad c1, v = .pointer (some ad) ∧ ad.spot = none ∧ ¬ m.S ad.block ∧ CR m x c1 ∧ Stand m.h ad.block ad.off c1 := by
  simp only [VR, VR1, CR] at h
  obtain ⟨ad, c1, h1, h2⟩ := h
  exact ⟨ad, c1, by simpa using h1, h2⟩
theorem VR.own {m : Mem} {o ver off len : Nat} {v : Value} (h : VR m (.own o ver off len) v) : m.X (.own o ver off len) v := by
  simp only [VR, VR1, CR] at h
  obtain ⟨u, h1, _, h2⟩ := h
  simp at h1; subst h1; exact h2
theorem VR.addr {m : Mem} {o ver i : Nat} {path : List Nat} {off : Nat} {v : Value} (h : VR m (.addr o ver i path off) v) : m.X (.addr o ver i path off) v := by
  simp only [VR, VR1, CR] at h
  obtain ⟨u, h1, _, h2⟩ := h
  simp at h1; subst h1; exact h2
theorem VR.fn {m : Mem} {f : FuncId} {caps : List AV} {v : Value} (h : VR m (.fn f caps) v) : ∃ vs : List Value, v = .func (.func f) #[] vs.toArray ∧ CRcaps m caps vs := by
  simp only [VR, VR1, CR] at h
  obtain ⟨vs, h1, h2⟩ := h
  exact ⟨vs, by simpa using h1, h2⟩

/-- The cells of a value that may lie in memory. -/
theorem VR.memo {m : Mem} {x : AV} {v : Value} (h : VR m x v) (hx : x.memo = true) : CR m x v.cells.toList ∧ (x.one = true → v.oneCell' = true) := by
  have one : ∀ {x : AV}, x.one = true → VR m x v → CR m x v.cells.toList ∧ v.oneCell' = true := fun {x} h1 h2 => by
    have h3 := CR.of_one h1 h2
    have h4 := CR.cells _ _ h3 v (by simp)
    refine ⟨?_, h4⟩
    cases v <;> simp_all [Value.cells, Value.oneCell']
  cases x
  case agg xs =>
    obtain ⟨cs, rfl, h1⟩ := h.agg
    exact ⟨by simpa [Value.cells, CR] using h1, fun h => by simp [AV.one] at h⟩
  all_goals first
    | (simp [AV.memo] at hx; done)
    | exact ⟨(one rfl h).1, fun _ => (one rfl h).2⟩

theorem VR.size {m : Mem} {x : AV} {v : Value} (h : VR m x v) (hx : x.memo = true) : v.cells.size = x.size := by
  have := CR.length _ _ (h.memo hx).1
  simpa using this

/-- What comes out of a variable. -/
theorem VR.shaped_agg {m : Mem} {x : AV} {cs : List Value} (h : CR m x cs) (hs : x.shaped true = true) : VR m x (.agg cs.toArray) := by
  cases x
  case agg xs => exact ⟨cs, rfl, by simpa [CR] using h⟩
  all_goals simp [AV.shaped] at hs

theorem VR.shaped_one {m : Mem} {x : AV} {cs : List Value} (h : CR m x cs) (hs : x.shaped false = true) : ∃ v, cs = [v] ∧ VR m x v := by
  have h0 := CR.length _ _ h
  cases x
  case agg xs => simp [AV.shaped] at hs
  case tup xs => simp [AV.shaped] at hs
  all_goals
    simp only [AV.size] at h0
    obtain ⟨v, rfl⟩ := List.length_eq_one_iff.1 h0
    refine ⟨v, rfl, ?_⟩
    first
      | exact VR.any v
      | exact VR.of_one rfl h

/-! ### Types -/

theorem tk_info {P : Program} {t : TypeId} {k : TK} {n : Nat} (h : tk P t = some (k, n)) : ∃ i d, P.info? t = some i ∧ P.underlying t = some d ∧ k = tkOf P d ∧ n = i.size := by
  unfold tk at h
  split at h
  · rename_i i d h1 h2
    simp at h
    exact ⟨i, d, h1, h2, h.1.symm, h.2.symm⟩
  · cases h

theorem run_und {P : Program} {t : TypeId} {d : TypeDesc} (h : P.underlying t = some d) (w : World) : (underlying t).run P w = .ok d w := run_underlying h w

theorem run_size {P : Program} {t : TypeId} {i : TypeInfo} (h : P.info? t = some i) (w : World) : (sizeOf t).run P w = .ok i.size w := by
  unfold sizeOf
  simp [run_typeInfo w h]

theorem tkOf_agg {P : Program} {d : TypeDesc} : (tkOf P d).isAgg = (match d with | .struct _ | .array _ _ => true | _ => false) := by
  cases d <;> rfl

theorem run_agg {P : Program} {t : TypeId} {d : TypeDesc} (h : P.underlying t = some d) (w : World) : (isAgg t).run P w = .ok (tkOf P d).isAgg w := by
  unfold isAgg
  simp only [Sem.run_bind, run_und h, Result.andThen_ok]
  cases d <;> rfl

theorem aggT_eq {P : Program} {t : TypeId} {d : TypeDesc} (h : P.underlying t = some d) : aggT P t = (tkOf P d).isAgg := by
  unfold aggT
  rw [h]
  cases d <;> rfl

/-- The cells that stand somewhere are loaded. -/
theorem run_load_stand {P : Program} {w : World} {ad : Addr} {cs : List Value} (hsp : ad.spot = none) (hs : Stand w.heap ad.block ad.off cs) :
    (loadCells ad cs.length).run P w = .ok cs.toArray w := by
  refine run_loadCells_list w ad cs fun j v hj => ?_
  obtain ⟨c, e, fr, hb, hc⟩ := hs
  obtain ⟨b, o, sp⟩ := ad
  simp only at hsp hb hc
  subst hsp
  have : (⟨b, o, none⟩ : Addr).add j = ⟨b, o + j, none⟩ := by
    unfold Addr.add
    by_cases h0 : j = 0 <;> simp [h0]
  rw [this]
  simp only [World.cell?, hb]
  exact hc j v hj

/-- A variable is read. -/
theorem run_loadVar {P : Program} {w : World} {m : Mem} {t : TypeId} {k : TK} {n : Nat} {ad : Addr} {x : AV} {cs : List Value} (ht : tk P t = some (k, n)) (hsp : ad.spot = none)
    (hs : Stand w.heap ad.block ad.off cs) (hx : CR m x cs) (hsh : x.shaped k.isAgg = true) (hn : x.size = n) : ∃ v, (loadVar t ad).run P w = .ok v w ∧ VR m x v := by
  obtain ⟨i, d, h1, h2, rfl, rfl⟩ := tk_info ht
  have hlen := CR.length _ _ hx
  unfold loadVar
  simp only [Sem.run_bind, run_agg h2, Result.andThen_ok]
  cases hk : (tkOf P d).isAgg with
  | true =>
    rw [hk] at hsh
    simp only [if_true, Sem.run_bind, run_size h1, Result.andThen_ok]
    rw [← hn, ← hlen, run_load_stand hsp hs]
    exact ⟨_, rfl, VR.shaped_agg hx hsh⟩
  | false =>
    rw [hk] at hsh
    obtain ⟨v, rfl, hv⟩ := VR.shaped_one hx hsh
    refine ⟨v, ?_, hv⟩
    obtain ⟨c, e, fr, hb, hc⟩ := hs
    obtain ⟨b, o, sp⟩ := ad
    simp only at hsp hb hc
    subst hsp
    have : w.cell? ⟨b, o, none⟩ = some v := by
      simp only [World.cell?, hb]
      exact hc 0 v rfl
    simp [this]

/-! ### The operations -/

theorem good_move (h : Rel c σ a w β) {x : Operand} {o : Oper} (ho : o.op = .move x) : Good c σ.L β w (σ.rd x) σ.L ((execOp a.eval o).run c.P w) := by
  refine Good.pure h (v := a.eval x) ?_ (h.rd x)
  simp [execOp, ho]

theorem good_nilrow (h : Rel c σ a w β) {o : Oper} {x : Operand} (ho : o.op = .assign x) (hx : σ.rd x = .nilS) :
    Good c σ.L β w (.own σ.L.length 0 0 0) (σ.L ++ [⟨0, 0, true, false, []⟩]) ((execOp a.eval o).run c.P w) := by
  have hv := (hx ▸ h.rd x : VR _ .nilS _).nilS
  obtain ⟨g1, g2⟩ := h.heap.snoc_nil 0 0 false ⟨0, 0⟩
  refine ⟨_, .slice none 0 0, w, β ++ [⟨0, 0⟩], by simp [execOp, ho, hv], .inl rfl, g2, g1, h.ext, ?_⟩
  simp only [VR, VR1, CR]
  refine ⟨_, rfl, rfl, ?_⟩
  simp only [memOf, ownX]
  refine ⟨_, _, by rw [List.getElem?_append_right (Nat.le_refl _)]; simp; rfl, by rw [← h.heap.len, List.getElem?_append_right (Nat.le_refl _)]; simp; rfl, by simp, fun _ => by simp⟩

theorem good_assign (h : Rel c σ a w β) {x : Operand} {o : Oper} (ho : o.op = .assign x) : Good c σ.L β w (σ.rd x) σ.L ((execOp a.eval o).run c.P w) := by
  refine Good.pure h (v := a.eval x) ?_ (h.rd x)
  simp [execOp, ho]

theorem good_pick (h : Rel c σ a w β) {x y z : Operand} {o : Oper} {b : Bool} (ho : o.op = .pick z x y) (hz : σ.rd z = .bool b) :
    Good c σ.L β w (if b then σ.rd x else σ.rd y) σ.L ((execOp a.eval o).run c.P w) := by
  have hv := (hz ▸ h.rd z : VR _ (.bool b) _).bool
  refine Good.pure h (v := if b then a.eval x else a.eval y) ?_ ?_
  · simp [execOp, ho, hv, asBool]
  · cases b
    · exact h.rd y
    · exact h.rd x

theorem good_load_ref (h : Rel c σ a w β) {t : TypeId} {x : Operand} {o : Oper} {k : TK} {n : Nat} {y : AV} (ho : o.op = .load t x) (ht : tk c.P t = some (k, n)) (hx : σ.rd x = .ref y)
    (hsh : y.shaped k.isAgg = true) (hn : y.size = n) : Good c σ.L β w y σ.L ((execOp a.eval o).run c.P w) := by
  obtain ⟨ad, c1, e1, e2, _, e4, e5⟩ := (hx ▸ h.rd x : VR _ (.ref y) _).ref
  obtain ⟨v, r1, r2⟩ := run_loadVar (P := c.P) (w := w) ht e2 e5 e4 hsh hn
  refine Good.pure h (v := v) ?_ r2
  simp [execOp, ho, e1, Instr.loadAt, Instr.sureAddr, r1]

theorem Rel.addr (h : Rel c σ a w β) {x : Operand} {o ver i : Nat} {path : List Nat} {off : Nat} {obj : AObj} (hx : σ.rd x = .addr o ver i path off)
    (hL : σ.L[o]? = some obj) (hv : obj.ver = ver) : ∃ po, β[o]? = some po ∧ obj.nil = false ∧ a.eval x = .pointer (some ⟨po.b, i * obj.esz + off, none⟩) := by
  have := (hx ▸ h.rd x : VR _ (.addr o ver i path off) _).addr
  simp only [memOf, ownX] at this
  obtain ⟨ob, po, k1, k2, k3, k4⟩ := this
  rw [hL] at k1
  obtain rfl := Option.some.inj k1
  exact ⟨po, k2, (k4 hv).1, (k4 hv).2⟩

theorem good_load_addr (h : Rel c σ a w β) {t : TypeId} {x : Operand} {o : Oper} {k : TK} {n : Nat} {oo ver i : Nat} {path : List Nat} {off : Nat} {obj : AObj} {e y : AV} (ho : o.op = .load t x)
    (ht : tk c.P t = some (k, n)) (hx : σ.rd x = .addr oo ver i path off) (hL : σ.L[oo]? = some obj) (hver : obj.ver = ver) (he : obj.elems[i]? = some e)
    (hy : e.getP path = some y) (hoff : e.offP path = some off) (hsh : y.shaped k.isAgg = true) (hn : y.size = n) : Good c σ.L β w y σ.L ((execOp a.eval o).run c.P w) := by
  obtain ⟨po, k1, k2, k3⟩ := h.addr hx hL hver
  obtain ⟨cs, g1, g2⟩ := h.heap.read hL k1 k2 he hy hoff
  obtain ⟨v, r1, r2⟩ := run_loadVar (P := c.P) (w := w) (ad := ⟨po.b, i * obj.esz + off, none⟩) ht rfl g2 g1 hsh hn
  refine Good.pure h (v := v) ?_ r2
  simp [execOp, ho, k3, Instr.loadAt, Instr.sureAddr, r1]

theorem good_nilCheck_ref (h : Rel c σ a w β) {x : Operand} {o : Oper} {y : AV} (ho : o.op = .nilCheck x) (hx : σ.rd x = .ref y) : Good c σ.L β w (.ref y) σ.L ((execOp a.eval o).run c.P w) := by
  obtain ⟨ad, c1, e1, _⟩ := (hx ▸ h.rd x : VR _ (.ref y) _).ref
  refine Good.pure h (v := a.eval x) ?_ (hx ▸ h.rd x)
  simp [execOp, ho, e1]

theorem good_nilCheck_addr (h : Rel c σ a w β) {x : Operand} {o : Oper} {oo ver i : Nat} {path : List Nat} {off : Nat} {obj : AObj} (ho : o.op = .nilCheck x) (hx : σ.rd x = .addr oo ver i path off)
    (hL : σ.L[oo]? = some obj) (hver : obj.ver = ver) : Good c σ.L β w (.addr oo ver i path off) σ.L ((execOp a.eval o).run c.P w) := by
  obtain ⟨po, k1, k2, k3⟩ := h.addr hx hL hver
  refine Good.pure h (v := a.eval x) ?_ (hx ▸ h.rd x)
  simp [execOp, ho, k3]

theorem good_nilCheck_fn (h : Rel c σ a w β) {x : Operand} {o : Oper} {f : FuncId} {caps : List AV} (ho : o.op = .nilCheck x) (hx : σ.rd x = .fn f caps) :
    Good c σ.L β w (.fn f caps) σ.L ((execOp a.eval o).run c.P w) := by
  obtain ⟨vs, e1, _⟩ := (hx ▸ h.rd x : VR _ (.fn f caps) _).fn
  refine Good.pure h (v := a.eval x) ?_ (hx ▸ h.rd x)
  simp [execOp, ho, e1]

theorem good_extract (h : Rel c σ a w β) {x : Operand} {o : Oper} {i : Nat} {xs : List AV} {y : AV} (ho : o.op = .extract x i) (hx : σ.rd x = .tup xs) (hy : xs[i]? = some y) :
    Good c σ.L β w y σ.L ((execOp a.eval o).run c.P w) := by
  obtain ⟨vs, e1, e2⟩ := (hx ▸ h.rd x : VR _ (.tup xs) _).tup
  have key : ∀ (xs : List AV) (vs : List Value) (i : Nat), VRs (memOf w.heap σ.L β c.S0) xs vs → xs[i]? = some y → ∃ v, vs[i]? = some v ∧ VR (memOf w.heap σ.L β c.S0) y v := by
    intro xs
    induction xs with
    | nil => intro vs i _ h; simp at h
    | cons x xs ih =>
      intro vs i h1 h2
      simp only [VRs] at h1
      obtain ⟨v, vs', rfl, h3, h4⟩ := h1
      cases i with
      | zero =>
        simp at h2; subst h2
        refine ⟨v, rfl, ?_⟩
        cases x <;> simp_all [VR, VR1]
      | succ i => simpa using ih vs' i h4 (by simpa using h2)
  obtain ⟨v, f1, f2⟩ := key xs vs i e2 hy
  refine Good.pure h (v := v) ?_ f2
  simp [execOp, ho, e1, Instr.extract, f1]

end Go.Proofs.Ytpneikbihcoaaab.Vm

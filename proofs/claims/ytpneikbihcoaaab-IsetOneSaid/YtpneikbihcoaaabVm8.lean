/- What an operation gives is what the machine does: the rest of what makes no memory. -/
import Derived.Test.YtpneikbihcoaaabVm7
namespace Go.Proofs.Ytpneikbihcoaaab.Vm
set_option linter.unusedVariables false
set_option linter.unusedSimpArgs false

variable {c : Ctx} {σ : AState} {a : Act} {w : World} {β : List PO}

theorem boolT_spec {P : Program} {t : TypeId} (h : boolT P t = true) : P.underlying t = some .bool := by
  unfold boolT at h
  split at h
  · assumption
  · cases h

theorem ptrT_spec {P : Program} {t : TypeId} (h : ptrT P t = true) : ∃ e, P.underlying t = some (.pointer e) := by
  unfold ptrT at h
  split at h
  · exact ⟨_, by assumption⟩
  · cases h

theorem run_intOp {P : Program} {w : World} {op : BinOp} {t : TypeId} {k : IntKind} {n m : Int} {z : AV} (h : intOp op k n m = some z) :
    ∃ v, (Go.binOp op t (.int k n) (.int k m)).run P w = .ok v w ∧ ∀ mm : Mem, VR mm z v := by
  cases op <;> simp only [intOp] at h
  case quo =>
    by_cases hb : m = 0
    · simp [hb] at h
    · simp only [hb, if_false, Option.some.injEq] at h
      subst h
      exact ⟨_, by simp [Go.binOp, Op.intDiv, hb], fun mm => VR.mk_int _ _ _⟩
  case rem =>
    by_cases hb : m = 0
    · simp [hb] at h
    · simp only [hb, if_false, Option.some.injEq] at h
      subst h
      exact ⟨_, by simp [Go.binOp, Op.intDiv, hb], fun mm => VR.mk_int _ _ _⟩
  case shl => cases h
  case shr => cases h
  case add | sub | mul =>
    simp only [Option.some.injEq] at h
    subst h
    exact ⟨_, by simp [Go.binOp, Op.intArith], fun mm => VR.mk_int _ _ _⟩
  case and | or | xor | andNot =>
    simp only [Option.some.injEq] at h
    subst h
    exact ⟨_, by simp only [Go.binOp, ne_eq, not_true_eq_false, if_false, Op.intBits]; rfl, fun mm => VR.mk_int _ _ _⟩
  all_goals
    simp only [Option.some.injEq] at h
    subst h
    exact ⟨_, by simp [Go.binOp, Op.intCmp], fun mm => VR.mk_bool _ _⟩

theorem run_strOp {P : Program} {w : World} {op : BinOp} {x y : ByteArray} {z : AV} (h : strOp op x y = some z) :
    ∃ v, (Op.stringOp op x y).run P w = .ok v w ∧ ∀ mm : Mem, VR mm z v := by
  cases op <;> simp only [strOp] at h <;> try (cases h; done)
  case add =>
    split at h
    · cases h
    · rename_i hle
      simp only [Option.some.injEq] at h
      subst h
      exact ⟨_, by simp only [Op.stringOp, hle, if_false]; rfl, fun mm => VR.mk_str _ _⟩
  all_goals
    simp only [Option.some.injEq] at h
    subst h
    exact ⟨_, by simp [Op.stringOp], fun mm => VR.mk_bool _ _⟩

theorem run_equal_ptr {P : Program} {w : World} {t e : TypeId} (hu : P.underlying t = some (.pointer e)) (x : Option Addr) :
    (Op.equal t (.pointer x) (.pointer none)).run P w = .ok x.isNone w := by
  have key : ∀ d, (Op.equalIn (d + 1) t (.pointer x) (.pointer none)).run P w = .ok x.isNone w := fun d => by
    cases x <;> simp only [Op.equalIn, Sem.run_bind, run_und hu, Result.andThen_ok] <;> rfl
  exact key 9999

theorem run_equal_bool {P : Program} {w : World} {t : TypeId} (hu : P.underlying t = some .bool) (x y : Bool) :
    (Op.equal t (.bool x) (.bool y)).run P w = .ok (x == y) w := run_equalIn_bool w 9999 t x y hu

theorem run_binAV (h : Rel c σ a w β) {op : BinOp} {t : TypeId} {x y : Operand} {z : AV} (hz : binAV c.P op t (σ.rd x) (σ.rd y) = some z) :
    ∃ v, ((do eqGuard op t x y (a.eval x) (a.eval y); Go.binOp op t (a.eval x) (a.eval y)) : Sem Value).run c.P w = .ok v w ∧ VR (memOf w.heap σ.L β c.S0) z v := by
  have hx := h.rd x
  have hy := h.rd y
  generalize σ.rd x = X at *
  generalize σ.rd y = Y at *
  generalize a.eval x = u at *
  generalize a.eval y = v at *
  unfold binAV at hz
  split at hz
  · rename_i k n k' m
    obtain rfl := hx.int
    obtain rfl := hy.int
    split at hz
    · cases hz
    · rename_i hb
      simp only [Option.some.injEq] at hz
      subst hz
      exact ⟨_, by simp [eqGuard, Go.binOp, Op.shift, hb], VR.mk_int _ _ _⟩
  · rename_i k n k' m
    obtain rfl := hx.int
    obtain rfl := hy.int
    split at hz
    · cases hz
    · rename_i hb
      simp only [Option.some.injEq] at hz
      subst hz
      exact ⟨_, by simp [eqGuard, Go.binOp, Op.shift, hb], VR.mk_int _ _ _⟩
  · rename_i k n k' m _ _
    obtain rfl := hx.int
    obtain rfl := hy.int
    split at hz
    · rename_i hk
      subst hk
      obtain ⟨r, h1, h2⟩ := run_intOp (P := c.P) (w := w) (t := t) hz
      refine ⟨r, ?_, h2 _⟩
      have hg : (eqGuard op t x y (.int k n) (.int k m)).run c.P w = .ok () w := by
        unfold eqGuard
        cases op <;> simp
      simp only [Sem.run_bind, hg, Result.andThen_ok, h1]
    · cases hz
  · rename_i s1 s2
    obtain rfl := hx.str
    obtain rfl := hy.str
    obtain ⟨r, h1, h2⟩ := run_strOp (P := c.P) (w := w) hz
    refine ⟨r, ?_, h2 _⟩
    have hg : (eqGuard op t x y (.string s1) (.string s2)).run c.P w = .ok () w := by
      unfold eqGuard
      cases op <;> simp
    have hb : Go.binOp op t (.string s1) (.string s2) = Op.stringOp op s1 s2 := by cases op <;> rfl
    simp only [Sem.run_bind, hg, Result.andThen_ok, hb, h1]
  · rename_i p q
    obtain rfl := hx.bool
    obtain rfl := hy.bool
    split at hz
    · rename_i hu
      have hu := boolT_spec hu
      simp only [Option.some.injEq] at hz
      subst hz
      refine ⟨_, ?_, VR.mk_bool _ _⟩
      simp [eqGuard, Go.binOp, run_equal_bool hu]
    · cases hz
  · rename_i p q
    obtain rfl := hx.bool
    obtain rfl := hy.bool
    split at hz
    · rename_i hu
      have hu := boolT_spec hu
      simp only [Option.some.injEq] at hz
      subst hz
      refine ⟨_, ?_, VR.mk_bool _ _⟩
      simp [eqGuard, Go.binOp, run_equal_bool hu]
    · cases hz
  · rename_i xs ys
    split at hz
    · rename_i hc
      simp only [Bool.and_eq_true, Bool.not_eq_true'] at hc
      obtain ⟨⟨c1, c2⟩, c3⟩ := hc
      obtain ⟨b, hb, rfl⟩ := Option.map_eq_some_iff.1 hz
      have hr := (run_equalIn_plain c.P w _ 64).1 Op.maxDepth t _ _ u v b (by unfold Op.maxDepth; omega) c1 c2 hx hy (by simpa [eqAV] using hb)
      obtain ⟨cx, rfl, _⟩ := hx.agg
      obtain ⟨cy, rfl, _⟩ := hy.agg
      refine ⟨_, ?_, VR.mk_bool _ _⟩
      have hr' : (Op.equal t (.agg cx.toArray) (.agg cy.toArray)).run c.P w = .ok b w := hr
      simp [eqGuard, Go.binOp, c3, hr']
    · cases hz
  · rename_i xs ys
    split at hz
    · rename_i hc
      simp only [Bool.and_eq_true, Bool.not_eq_true'] at hc
      obtain ⟨⟨c1, c2⟩, c3⟩ := hc
      obtain ⟨b, hb, rfl⟩ := Option.map_eq_some_iff.1 hz
      have hr := (run_equalIn_plain c.P w _ 64).1 Op.maxDepth t _ _ u v b (by unfold Op.maxDepth; omega) c1 c2 hx hy (by simpa [eqAV] using hb)
      obtain ⟨cx, rfl, _⟩ := hx.agg
      obtain ⟨cy, rfl, _⟩ := hy.agg
      refine ⟨_, ?_, VR.mk_bool _ _⟩
      have hr' : (Op.equal t (.agg cx.toArray) (.agg cy.toArray)).run c.P w = .ok b w := hr
      simp [eqGuard, Go.binOp, c3, hr']
    · cases hz
  · split at hz
    · rename_i p hu
      obtain ⟨e, hu⟩ := ptrT_spec hu
      simp only [Option.some.injEq] at hz
      subst hz
      obtain ⟨ad, c1, rfl, _⟩ := hx.ref
      obtain rfl := hy.nilP
      refine ⟨_, ?_, VR.mk_bool _ _⟩
      simp [eqGuard, Go.binOp, run_equal_ptr hu]
    · cases hz
  · split at hz
    · rename_i p hu
      obtain ⟨e, hu⟩ := ptrT_spec hu
      simp only [Option.some.injEq] at hz
      subst hz
      obtain ⟨ad, c1, rfl, _⟩ := hx.ref
      obtain rfl := hy.nilP
      refine ⟨_, ?_, VR.mk_bool _ _⟩
      simp [eqGuard, Go.binOp, run_equal_ptr hu]
    · cases hz
  · split at hz
    · rename_i hu
      obtain ⟨e, hu⟩ := ptrT_spec hu
      simp only [Option.some.injEq] at hz
      subst hz
      obtain rfl := hx.nilP
      obtain rfl := hy.nilP
      refine ⟨_, ?_, VR.mk_bool _ _⟩
      simp [eqGuard, Go.binOp, run_equal_ptr hu]
    · cases hz
  · split at hz
    · rename_i hu
      obtain ⟨e, hu⟩ := ptrT_spec hu
      simp only [Option.some.injEq] at hz
      subst hz
      obtain rfl := hx.nilP
      obtain rfl := hy.nilP
      refine ⟨_, ?_, VR.mk_bool _ _⟩
      simp [eqGuard, Go.binOp, run_equal_ptr hu]
    · cases hz
  · cases hz

theorem good_binOp (h : Rel c σ a w β) {op : BinOp} {t u : TypeId} {x y : Operand} {o : Oper} {z : AV} (ho : o.op = .binOp op t x y u) (hz : binAV c.P op t (σ.rd x) (σ.rd y) = some z) :
    Good c σ.L β w z σ.L ((execOp a.eval o).run c.P w) := by
  obtain ⟨v, h1, h2⟩ := run_binAV h hz
  refine Good.pure h (v := v) ?_ h2
  simp only [Sem.run_bind] at h1
  simp only [execOp, ho, Sem.run_bind]
  cases hg : (eqGuard op t x y (a.eval x) (a.eval y)).run c.P w with
  | halt e w1 => rw [hg] at h1; cases h1
  | ok q w1 =>
    rw [hg] at h1
    simp only [Result.andThen_ok] at h1 ⊢
    rw [h1]
    rfl

theorem good_unOp (h : Rel c σ a w β) {op : UnOp} {t : TypeId} {x : Operand} {o : Oper} {z : AV} (ho : o.op = .unOp op t x) (hz : unAV op (σ.rd x) = some z) :
    Good c σ.L β w z σ.L ((execOp a.eval o).run c.P w) := by
  have hx := h.rd x
  generalize σ.rd x = X at *
  unfold unAV at hz
  split at hz
  · simp only [Option.some.injEq] at hz; subst hz
    refine Good.pure h ?_ (VR.mk_int _ _ _)
    simp [execOp, ho, hx.int, Op.unary, Op.intArith]
  · simp only [Option.some.injEq] at hz; subst hz
    refine Good.pure h ?_ (VR.mk_int _ _ _)
    simp [execOp, ho, hx.int, Op.unary, Op.intBits]
  · simp only [Option.some.injEq] at hz; subst hz
    refine Good.pure h ?_ (VR.mk_bool _ _)
    simp [execOp, ho, hx.bool, Op.unary]
  · cases hz

theorem good_convert_int (h : Rel c σ a w β) {s d : TypeId} {x : Operand} {o : Oper} {ks : TK} {ns nd : Nat} {k k' : IntKind} {n : Int} (ho : o.op = .convert s d x)
    (hs : tk c.P s = some (ks, ns)) (hd : tk c.P d = some (.int k, nd)) (hx : σ.rd x = .int k' n) : Good c σ.L β w (.int k (k.wrap n)) σ.L ((execOp a.eval o).run c.P w) := by
  have hv := (hx ▸ h.rd x : VR _ (.int k' n) _).int
  obtain ⟨i, ds, _, hus, _⟩ := tk_info hs
  refine Good.pure h ?_ (VR.mk_int _ _ _)
  simp [execOp, ho, hv, Go.convert, run_und hus, run_und (tk_int hd), Conv.intToInt]

theorem good_convert_str (h : Rel c σ a w β) {s d : TypeId} {x : Operand} {o : Oper} {ns nd : Nat} {b : ByteArray} (ho : o.op = .convert s d x)
    (hs : tk c.P s = some (.str, ns)) (hd : tk c.P d = some (.str, nd)) (hx : σ.rd x = .str b) : Good c σ.L β w (.str b) σ.L ((execOp a.eval o).run c.P w) := by
  have hv := (hx ▸ h.rd x : VR _ (.str b) _).str
  refine Good.pure h ?_ (VR.mk_str _ _)
  simp [execOp, ho, hv, Go.convert, run_und (tk_str hs), run_und (tk_str hd)]

/-! ### The rows of a slice -/

theorem CRrow.take {m : Mem} {b sz : Nat} {xs : List AV} {off : Nat} (h : CRrow m b sz xs off) (k n : Nat) : CRrow m b sz ((xs.drop k).take n) (off + k * sz) := by
  rw [CRrow_iff] at *
  intro i x hi
  rw [List.getElem?_take] at hi
  split at hi
  · rw [List.getElem?_drop] at hi
    obtain ⟨cs, h1, h2, h3⟩ := h _ _ hi
    exact ⟨cs, h1, h2, by rwa [Nat.add_mul, ← Nat.add_assoc] at h3⟩
  · cases hi

/-- Where the elements of a slice stand. -/
theorem Rel.row (h : Rel c σ a w β) {x : AV} {v : Value} {xs : List AV} (hv : VR (memOf w.heap σ.L β c.S0) x v) (hx : σ.elems x = some xs) : ∃ ad cap, v = .slice ad xs.length cap ∧
    (xs = [] ∨ ∃ d sz, ad = some d ∧ d.spot = none ∧ CRrow (memOf w.heap σ.L β c.S0) d.block sz xs d.off) := by
  cases x <;> simp only [AState.elems] at hx <;> try (cases hx; done)
  case slice ys =>
    obtain rfl := Option.some.inj hx
    obtain ⟨ad, cap, h1, h2, h3⟩ := hv.slice
    refine ⟨ad, cap, h1, ?_⟩
    rcases h3 with h3 | ⟨d, sz, e1, e2, _, e4⟩
    · exact .inl h3
    · exact .inr ⟨d, sz, e1, e2, e4⟩
  case nilS =>
    obtain rfl := Option.some.inj hx
    exact ⟨none, 0, hv.nilS, .inl rfl⟩
  case own o ver off len =>
    have h0 := hv.own
    simp only [memOf, ownX] at h0
    obtain ⟨obj, po, k1, k2, k3, k4⟩ := h0
    rw [k1] at hx
    simp only at hx
    split at hx
    · rename_i hc
      obtain rfl := Option.some.inj hx
      have hlen : ((obj.elems.drop off).take len).length = len := by simp; omega
      rw [hlen]
      have k5 := k4 hc.1
      by_cases hn : obj.nil = true
      · rw [if_pos hn] at k5
        obtain ⟨rfl, rfl, rfl⟩ := k5
        exact ⟨none, 0, rfl, .inl (by simp)⟩
      · rw [if_neg hn] at k5
        obtain ⟨ad, cap, e1, e2, e3, e4, e5, e6⟩ := k5
        refine ⟨some ad, cap, e1, ?_⟩
        by_cases hl : len = 0
        · left; subst hl; simp
        · right
          have hrow := h.heap.row o obj po k1 k2 (by simpa using hn)
          have := hrow.take off len
          rw [Nat.zero_add] at this
          exact ⟨ad, obj.esz, rfl, e3, by rw [e2, e5 (by omega)]; exact this⟩
    · cases hx

theorem good_len_slice (h : Rel c σ a w β) {cl : Call} {o : Oper} {t : TypeId} {x : Operand} {e esz eb n : Nat} {l : Nat} (ho : o.op = .call cl) (hcal : cl.callee = .builtin .len)
    (ht : cl.argTypes[0]? = some t) (hx : cl.args[0]? = some x) (hk : tk c.P t = some (.slice e esz eb, n)) (hl : ∃ ad cap, a.eval x = .slice ad l cap) :
    Good c σ.L β w (.int .i64 l) σ.L ((execOp a.eval o).run c.P w) := by
  obtain ⟨ad, cap, hv⟩ := hl
  refine Good.pure h (v := .int .i64 l) ?_ (VR.mk_int _ _ _)
  have hu := (tk_slice hk).1
  simp [execOp, ho, resolve, hcal, invoke, Go.builtin, Builtin.len_, ht, hx, run_und hu, hv, goInt]

theorem good_len_str (h : Rel c σ a w β) {cl : Call} {o : Oper} {t : TypeId} {x : Operand} {n : Nat} {s : ByteArray} (ho : o.op = .call cl) (hcal : cl.callee = .builtin .len)
    (ht : cl.argTypes[0]? = some t) (hx : cl.args[0]? = some x) (hk : tk c.P t = some (.str, n)) (hl : σ.rd x = .str s) :
    Good c σ.L β w (.int .i64 s.size) σ.L ((execOp a.eval o).run c.P w) := by
  have hv := (hl ▸ h.rd x : VR _ (.str s) _).str
  refine Good.pure h (v := .int .i64 s.size) ?_ (VR.mk_int _ _ _)
  simp [execOp, ho, resolve, hcal, invoke, Go.builtin, Builtin.len_, ht, hx, run_und (tk_str hk), hv, goInt]

theorem good_len_arr (h : Rel c σ a w β) {cl : Call} {o : Oper} {t : TypeId} {x : Operand} {n l e esz : Nat} (ho : o.op = .call cl) (hcal : cl.callee = .builtin .len)
    (ht : cl.argTypes[0]? = some t) (hx : cl.args[0]? = some x) (hk : tk c.P t = some (.arr l e esz, n)) :
    Good c σ.L β w (.int .i64 l) σ.L ((execOp a.eval o).run c.P w) := by
  refine Good.pure h (v := .int .i64 l) ?_ (VR.mk_int _ _ _)
  simp [execOp, ho, resolve, hcal, invoke, Go.builtin, Builtin.len_, ht, hx, run_und (tk_arr hk).1, goInt]

theorem good_max (h : Rel c σ a w β) {cl : Call} {o : Oper} {z : AV} (ho : o.op = .call cl) (hcal : cl.callee = .builtin .max) (hz : maxAV (cl.args.toList.map σ.rd) = some z) :
    Good c σ.L β w z σ.L ((execOp a.eval o).run c.P w) := by
  have key : ∀ (l : List Operand) (k : IntKind) (n : Int), (l.map σ.rd).foldlM (fun x y => match x, y with | .int k a, .int _ b => some (.int k (if b > a then b else a)) | _, _ => none) (AV.int k n) = some z →
      ∃ m, z = .int k m ∧ ((l.map a.eval).foldlM Builtin.max2 (.int k n)).run c.P w = .ok (.int k m) w := by
    intro l
    induction l with
    | nil => intro k n hz; simp at hz; subst hz; exact ⟨n, rfl, rfl⟩
    | cons y l ih =>
      intro k n hz
      simp only [List.map_cons, List.foldlM_cons] at hz
      have hy := h.rd y
      cases hr : σ.rd y <;> rw [hr] at hz hy <;> simp only [Option.bind_eq_bind, Option.bind_none, Option.bind_some] at hz <;> try (cases hz; done)
      rename_i k' n'
      obtain ⟨m, e1, e2⟩ := ih k _ hz
      refine ⟨m, e1, ?_⟩
      simp [hy.int, Builtin.max2, e2]
  cases hl : cl.args.toList with
  | nil => rw [hl] at hz; simp [maxAV] at hz
  | cons x l =>
    rw [hl] at hz
    simp only [List.map_cons] at hz
    have hx := h.rd x
    cases hr : σ.rd x <;> rw [hr] at hz hx <;> simp only [maxAV] at hz <;> try (cases hz; done)
    rename_i k n
    obtain ⟨m, e1, e2⟩ := key l k n hz
    subst e1
    refine Good.pure h (v := .int k m) ?_ (VR.mk_int _ _ _)
    simp [execOp, ho, resolve, hcal, invoke, Go.builtin, Builtin.max_, hl, hx.int, e2]

theorem good_min (h : Rel c σ a w β) {cl : Call} {o : Oper} {z : AV} (ho : o.op = .call cl) (hcal : cl.callee = .builtin .min) (hz : minAV (cl.args.toList.map σ.rd) = some z) :
    Good c σ.L β w z σ.L ((execOp a.eval o).run c.P w) := by
  have key : ∀ (l : List Operand) (k : IntKind) (n : Int), (l.map σ.rd).foldlM (fun x y => match x, y with | .int k a, .int _ b => some (.int k (if b < a then b else a)) | _, _ => none) (AV.int k n) = some z →
      ∃ m, z = .int k m ∧ ((l.map a.eval).foldlM Builtin.min2 (.int k n)).run c.P w = .ok (.int k m) w := by
    intro l
    induction l with
    | nil => intro k n hz; simp at hz; subst hz; exact ⟨n, rfl, rfl⟩
    | cons y l ih =>
      intro k n hz
      simp only [List.map_cons, List.foldlM_cons] at hz
      have hy := h.rd y
      cases hr : σ.rd y <;> rw [hr] at hz hy <;> simp only [Option.bind_eq_bind, Option.bind_none, Option.bind_some] at hz <;> try (cases hz; done)
      rename_i k' n'
      obtain ⟨m, e1, e2⟩ := ih k _ hz
      refine ⟨m, e1, ?_⟩
      simp [hy.int, Builtin.min2, e2]
  cases hl : cl.args.toList with
  | nil => rw [hl] at hz; simp [minAV] at hz
  | cons x l =>
    rw [hl] at hz
    simp only [List.map_cons] at hz
    have hx := h.rd x
    cases hr : σ.rd x <;> rw [hr] at hz hx <;> simp only [minAV] at hz <;> try (cases hz; done)
    rename_i k n
    obtain ⟨m, e1, e2⟩ := key l k n hz
    subst e1
    refine Good.pure h (v := .int k m) ?_ (VR.mk_int _ _ _)
    simp [execOp, ho, resolve, hcal, invoke, Go.builtin, Builtin.min_, hl, hx.int, e2]

theorem CRcaps.mk (h : Rel c σ a w β) : ∀ (l : List Operand), l.all (fun x => (σ.rd x).one) = true → CRcaps (memOf w.heap σ.L β c.S0) (l.map σ.rd) (l.map a.eval)
  | [], _ => by simp [CRcaps]
  | x :: l, hl => by
    simp only [List.all_cons, Bool.and_eq_true] at hl
    simp only [List.map_cons, CRcaps]
    exact ⟨_, _, rfl, CR.of_one hl.1 (h.rd x), CRcaps.mk h l hl.2⟩

theorem good_makeFunc (h : Rel c σ a w β) {f : FuncId} {first caps : Array Operand} {o : Oper} (ho : o.op = .makeFunc (.func f) first caps) (hf : first.isEmpty = true)
    (hc : caps.toList.all (fun x => (σ.rd x).one) = true) : Good c σ.L β w (.fn f (caps.toList.map σ.rd)) σ.L ((execOp a.eval o).run c.P w) := by
  refine Good.pure h (v := .func (.func f) #[] (caps.toList.map a.eval).toArray) ?_ ?_
  · have : first = #[] := by simpa using hf
    have h2 : Array.map a.eval caps = (List.map a.eval caps.toList).toArray := by rw [← Array.toList_map]
    simp only [execOp, ho, Instr.makeFunc, this, h2, Array.map_empty]
    rfl
  · simp only [VR, VR1, CR]
    exact ⟨_, rfl, CRcaps.mk h _ hc⟩

end Go.Proofs.Ytpneikbihcoaaab.Vm

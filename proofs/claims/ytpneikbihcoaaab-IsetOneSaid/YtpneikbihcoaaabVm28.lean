/- Operations that the walk is told of one by one. -/
import Derived.Test.YtpneikbihcoaaabVm27
namespace Go.Proofs.Ytpneikbihcoaaab.Vm
set_option linter.unusedVariables false
set_option linter.unusedSimpArgs false

variable {c : Ctx} {f : FuncId} {σ : AState} {R : AV → List AObj → Prop} {k : List Item} {a : Act} {w : World} {β : List PO}

/-- An operation that gives one of some values. -/
theorem AOps.goodE {P : Program} {n : Nat} {ops : Array Oper} {o : Oper} {rest : List Oper} {ps : List Nat} (Q : AV → Prop)
    (hP : c.P = P) (hn : c.n = n) (hm : P.follows .mixedOrders = true) (bad : List Nat) (m : Nat)
    (hgood : ∀ (a : Act) (w : World) (β : List PO), Rel c σ a w β → ∃ x, Q x ∧ Good c σ.L β w x σ.L ((execOp a.eval o).run c.P w))
    (hw : (awanted ops σ.env o == some true && guardOk n ops o && dstOk n o.dst) = true) (hok : todoOk bad k = true)
    (h : ∀ x, Q x → GR P n bad c f ps R m k ops rest ⟨updO σ.env o.dst x, σ.L⟩) : AOps c ops (o :: rest) σ (AK c f ps k R) := by
  have key : ∀ x, Q x → (match runTo P n ops rest ⟨updO σ.env o.dst x, σ.L⟩ with | some (σ', l') => AOps c ops l' σ' (AK c f ps k R) | none => False) := fun x hx => by
    have h := h x hx
    unfold GR at h
    split at h
    · rename_i σ' hr
      rw [hr]
      exact AOps.nil (AGo.go hP hn hm bad ps m hok h)
    · rename_i σ' o' l' hr
      rw [hr]; exact h
    · exact h.elim
  subst hP hn
  simp only [Bool.and_eq_true, beq_iff_eq] at hw
  intro a w β hr
  refine wpList_step fun K' hK => ?_
  rw [if_pos (awanted_sound hr hw.1.1 (guardOk_sound hw.1.2))]
  obtain ⟨x, hQ, n, v, w', β', e1, e2, e3, e4, e5, e6⟩ := hgood a w β hr
  have hd' : ∀ i, o.dst = some i → i < c.n := fun i hi => by have := hw.2; rw [hi] at this; simpa [dstOk] using this
  have hrel : Rel c ⟨updO σ.env o.dst x, σ.L⟩ (a.put o.dst v) w' β' := hr.step o.dst e3 e4 e5 hd' e6
  unfold Oper.wp
  rw [e1]
  rcases e2 with rfl | ⟨rfl, rfl⟩
  · simp only [Oper.upon_value]
    exact hK _ _ (AOps.to (key x hQ) _ _ _ hrel)
  · simp only [Oper.upon_skip]
    exact hK _ _ (AOps.to (key x hQ) _ _ _ hrel)

def sliceT (P : Program) (t : TypeId) : Bool :=
  match P.underlying t with
  | some (.slice _) => true
  | _ => false

theorem sliceT_spec {P : Program} {t : TypeId} (h : sliceT P t = true) : ∃ e, P.underlying t = some (.slice e) := by
  unfold sliceT at h
  split at h
  · exact ⟨_, by assumption⟩
  · cases h

theorem run_equal_slice {P : Program} {w : World} {t e : TypeId} (hu : P.underlying t = some (.slice e)) (x : Option Addr) (n m : Nat) :
    (Op.equal t (.slice x n m) (.slice none 0 0)).run P w = .ok x.isNone w := by
  have key : ∀ d, (Op.equalIn (d + 1) t (.slice x n m) (.slice none 0 0)).run P w = .ok x.isNone w := fun d => by
    cases x <;> simp only [Op.equalIn, Sem.run_bind, run_und hu, Result.andThen_ok] <;> rfl
  exact key 9999

/-- Is a slice nil? Only one without elements may be. -/
theorem good_isNil (h : Rel c σ a w β) {t u : TypeId} {x : Operand} {o : Oper} {xs : List AV} (ho : o.op = .binOp .eql t x (.const (.slice none 0 0)) u) (ht : sliceT c.P t = true) (hx : σ.rd x = .slice xs) :
    ∃ y, (∃ b, y = .bool b ∧ (b = true → xs = [])) ∧ Good c σ.L β w y σ.L ((execOp a.eval o).run c.P w) := by
  obtain ⟨e, hu⟩ := sliceT_spec ht
  have hv : VR (memOf w.heap σ.L β c.S0) (.slice xs) (a.eval x) := hx ▸ h.rd x
  obtain ⟨ad, cap, e1, e2, e3⟩ := hv.slice
  refine ⟨.bool ad.isNone, ⟨_, rfl, fun hb => ?_⟩, Good.pure h (v := .bool ad.isNone) ?_ (VR.mk_bool _ _)⟩
  · rcases e3 with e3 | ⟨q, sz, rfl, _⟩
    · exact e3
    · cases hb
  · have ec : a.eval (.const (.slice none 0 0)) = .slice none 0 0 := rfl
    have hg : (eqGuard .eql t x (.const (.slice none 0 0)) (.slice ad xs.length cap) (.slice none 0 0)).run c.P w = .ok () w := by
      unfold eqGuard
      simp [hu, Program.eqGuardType, Sem.run_bind]
    simp only [execOp, ho, Sem.run_bind, ec, e1, hg, Result.andThen_ok, Go.binOp, run_equal_slice hu, Sem.run_pure]

theorem good_capNil (h : Rel c σ a w β) {cl : Call} {t : TypeId} {x : Operand} {o : Oper} (ho : o.op = .call cl) (hcal : cl.callee = .builtin .cap) (hargs : cl.args.toList = [x]) (hat : cl.argTypes.toList = [t])
    (ht : sliceT c.P t = true) (hx : σ.rd x = .nilS) : Good c σ.L β w (.int .i64 0) σ.L ((execOp a.eval o).run c.P w) := by
  obtain ⟨e, hu⟩ := sliceT_spec ht
  have hv : a.eval x = .slice none 0 0 := (hx ▸ h.rd x : VR _ .nilS _).nilS
  have harg0 : cl.argTypes[0]? = some t := by rw [← Array.getElem?_toList, hat]; rfl
  have hmap : cl.args.map a.eval = #[a.eval x] := by
    apply Array.ext'
    simp [hargs]
  refine Good.pure h (v := .int .i64 0) ?_ (VR.mk_int _ _ _)
  simp only [execOp, ho, resolve, hcal, Sem.run_bind, Sem.run_pure, Result.andThen_ok, invoke, Go.builtin, Builtin.cap_, harg0, hmap, List.getElem?_toArray, List.getElem?_cons_zero, run_und hu, hv]
  rfl

theorem good_sliceNil (h : Rel c σ a w β) {t : TypeId} {x y : Operand} {o : Oper} (ho : o.op = .slice t x none (some y) none) (ht : sliceT c.P t = true) {e esz eb n : Nat} (hk : tk c.P t = some (.slice e esz eb, n)) (hp : 0 < esz)
    (hx : σ.rd x = .nilS) (hy : σ.rd y = .int .i64 0) : Good c σ.L β w .nilS σ.L ((execOp a.eval o).run c.P w) := by
  obtain ⟨hu, rfl, hcell⟩ := tk_slice hk
  have hcell := hcell (by omega)
  have hsize : ∀ w, (sizeOf e).run c.P w = .ok esz w := fun w => by rw [hcell]; exact run_sizeOf_cells (by omega) w
  have hv : a.eval x = .slice none 0 0 := (hx ▸ h.rd x : VR _ .nilS _).nilS
  have hyv : a.eval y = .int .i64 0 := (hy ▸ h.rd y : VR _ (.int .i64 0) _).int
  refine Good.pure h (v := .slice none 0 0) ?_ (by simp [VR, VR1, CR])
  simp [execOp, ho, Instr.sliceAt, Instr.slice, run_und hu, hv, hyv, hsize, Instr.sliceBounds, Instr.sliceBound, asIntOf_int]

/-- 'append(nil, make([]T, n)...)'. -/
theorem good_zeros (h : Rel c σ a w β) {cl : Call} {o : Oper} {t u : TypeId} {x y : Operand} {e esz eb n nu : Nat} {m : Int}
    (ho : o.op = .call cl) (hcal : cl.callee = .builtin .append) (hargs : cl.args.toList = [x, y]) (hat : cl.argTypes.toList = [t, u])
    (ht : tk c.P t = some (.slice e esz eb, n)) (hu : tk c.P u = some (.int .i64, nu)) (hzav : zOk c.P e esz = true) (hx : σ.rd x = .nilS) (hy : σ.rd y = .int .i64 m) (hpos : 0 < esz)
    (h0 : 0 < m) (hb1 : m * eb ≤ 2 ^ 45) (hb2 : m < 2 ^ 45) :
    Good c σ.L β w (.own σ.L.length 0 0 m.toNat) (σ.L ++ [⟨0, esz, false, false, []⟩]) ((execOp a.eval o).run c.P w) := by
  obtain ⟨hut, rfl, hcell⟩ := tk_slice ht
  have hcell := hcell (by omega)
  have hsize : ∀ w, (sizeOf e).run c.P w = .ok esz w := fun w => by rw [hcell]; exact run_sizeOf_cells (by omega) w
  obtain ⟨z, hz, hzsz⟩ : ∃ z, zav c.P e = some z ∧ z.size = esz := by
    unfold zOk at hzav
    split at hzav
    · rename_i z hz
      exact ⟨z, hz, by simpa using hzav⟩
    · cases hzav
  obtain ⟨inf, zv, i1, i2, i3⟩ := zav_sound hz
  have hcr := i3 (memOf w.heap σ.L β c.S0)
  have hzs : zv.cells.size = esz := by rw [← hzsz, ← CR.length _ _ hcr]; simp
  have hbytes : c.P.bytesOf e = inf.bytes := by unfold Program.bytesOf; rw [i1]; rfl
  obtain ⟨iu, du, u1, u2, u3, _⟩ := tk_info hu
  have hdu : du = .int .i64 := by
    cases du <;> simp [tkOf] at u3
    subst u3; rfl
  subst hdu
  have hxv : a.eval x = .slice none 0 0 := (hx ▸ h.rd x : VR _ .nilS _).nilS
  have hyv : a.eval y = .int .i64 m := (hy ▸ h.rd y : VR _ (.int .i64 m) _).int
  have harg0 : cl.argTypes[0]? = some t := by rw [← Array.getElem?_toList, hat]; rfl
  have harg1 : cl.argTypes[1]? = some u := by rw [← Array.getElem?_toList, hat]; rfl
  have hmap : cl.args.map a.eval = #[a.eval x, a.eval y] := by
    apply Array.ext'
    simp [hargs]
  obtain ⟨N, rfl⟩ := Int.eq_ofNat_of_zero_le (show 0 ≤ m by omega)
  have hw : IntKind.i64.wrap (N : Int) = N := by unfold IntKind.wrap; simp [IntKind.bits, IntKind.signed]; omega
  have hN : 0 < N := by omega
  rw [hbytes] at hb1
  have hb1' : N * inf.bytes ≤ 2 ^ 45 := by have : ((N * inf.bytes : Nat) : Int) ≤ 2 ^ 45 := by rw [Int.natCast_mul]; exact hb1
                                           omega
  obtain ⟨newCap, w0, hch, hcap, q0, q1, q2, q3⟩ : ∃ newCap w0, (choose (.appendCap (0 + N) 0 e)).run c.P w = .ok newCap w0 ∧ 0 + N ≤ newCap ∧ w0.heap = w.heap ∧ w0.os = w.os ∧ w0.tape = w.tape ∧ w0.output = w.output := by
    refine ⟨(Question.appendCap (0 + N) 0 e).cut (w.tape w.drawn (.appendCap (0 + N) 0 e)), { w with drawn := w.drawn + 1 }, by simp only [run_choose, Question.forced, Bool.false_eq_true, if_false], ?_, rfl, rfl, rfl, rfl⟩
    simp only [Question.cut]
    omega
  have hgrow : ¬ (Builtin.nextslicecap (0 + N) 0 * inf.bytes > 2 ^ 48) := by
    have h1 := nextslicecap_le (need := 0 + N) (cap := 0) (by omega)
    have h2 := Nat.mul_le_mul_right inf.bytes h1
    have h3 : 2 * (0 + N) * inf.bytes = 2 * (N * inf.bytes) := by rw [Nat.zero_add, Nat.mul_assoc]
    omega
  have hmax : ¬ (((0 + N : Nat) : Int) > IntKind.i64.max ∧ (True ∨ inf.bytes = 0)) := by
    intro hh
    have h1 := hh.1
    have : IntKind.i64.max = 2 ^ 63 - 1 := rfl
    omega
  have hti : ∀ w', (typeInfo e).run c.P w' = .ok inf w' := fun w' => run_typeInfo w' i1
  have hzv : ∀ w', (zeroValue e).run c.P w' = .ok zv w' := fun w' => run_zero i1 i2
  obtain ⟨cells, hcells⟩ : ∃ cells : Array Value, cells = #[] ++ Builtin.zeroCells zv.cells N ++ Builtin.zeroCells zv.cells (newCap - (0 + N)) := ⟨_, rfl⟩
  have hlen : newCap * esz ≤ cells.toList.length := by
    rw [hcells]
    simp only [Builtin.zeroCells, hzs, Array.length_toList, Array.size_append, Array.size_map, Array.size_range, List.size_toArray, List.length_nil]
    rw [show 0 + N * esz + (newCap - (0 + N)) * esz = (N + (newCap - (0 + N))) * esz by rw [Nat.add_mul]; omega]
    exact Nat.mul_le_mul_right _ (by omega)
  obtain ⟨k1, k2, k3⟩ := h.alloc (w' := { w0 with heap := w0.heap.push (.cells cells e (0, 0)) }) (elems := []) (cs := cells.toList) (e := e) hpos trivial (by simp [q0]) q1 q2 q3
  refine ⟨_, .slice (some ⟨w.heap.size, 0, none⟩) N newCap, _, _, ?_, .inl rfl, k1, k2, k3, VR.mk_own rfl (ownX_new_own _ _ h.heap.len _ _ _ _ _ _ (by omega) hlen)⟩
  have t1 : ¬ ((N : Int) < 0) := by omega
  have t2 : ¬ ((N : Int) * inf.bytes > 2 ^ 48) := by omega
  have t3 : ¬ (N * esz = 0) := by
    intro hh
    rcases Nat.mul_eq_zero.1 hh with h1 | h1 <;> omega
  have t4 : ¬ (0 + N ≤ 0) := by omega
  simp only [execOp, ho, resolve, hcal, Sem.run_bind, Sem.run_pure, Result.andThen_ok, invoke, Go.builtin, Builtin.append_, harg0, harg1, hmap,
    List.getElem?_toArray, List.getElem?_cons_zero, List.getElem?_cons_succ, run_und hut, hxv, hyv, hsize, run_und u2, if_true, asInt, asIntOf_int, hw, t1, t2, t3, t4, if_false, Bool.not_true, Bool.false_eq_true, Sem.run_ite, hti,
    Int.toNat_natCast, hmax, hgrow, hch, run_askRoom, Builtin.firstCells, hzv, newRow, run_newObj, q0, hcells]
  rw [Nat.zero_add]

end Go.Proofs.Ytpneikbihcoaaab.Vm

/- What an operation gives is what the machine does: places, numbers, texts. -/
import Derived.Test.YtpneikbihcoaaabVm5
namespace Go.Proofs.Ytpneikbihcoaaab.Vm
set_option linter.unusedVariables false
set_option linter.unusedSimpArgs false

variable {c : Ctx} {σ : AState} {a : Act} {w : World} {β : List PO}

theorem Addr.add_none (b o n : Nat) : (⟨b, o, none⟩ : Addr).add n = ⟨b, o + n, none⟩ := by
  unfold Go.Addr.add
  by_cases h0 : n = 0 <;> simp [h0]

theorem Addr.add_spot {ad : Addr} (h : ad.spot = none) (n : Nat) : ad.add n = ⟨ad.block, ad.off + n, none⟩ := by
  obtain ⟨b, o, s⟩ := ad
  simp only at h
  subst h
  exact Addr.add_none b o n

theorem cells_info {P : Program} {t : TypeId} (h : P.cellsOf t ≠ 0) : ∃ i, P.info? t = some i ∧ i.size = P.cellsOf t := by
  unfold Program.cellsOf at *
  cases hi : P.info? t with
  | none => simp [hi] at h
  | some i => exact ⟨i, rfl, by simp⟩

theorem run_sizeOf_cells {P : Program} {t : TypeId} (h : P.cellsOf t ≠ 0) (w : World) : (sizeOf t).run P w = .ok (P.cellsOf t) w := by
  obtain ⟨i, h1, h2⟩ := cells_info h
  rw [run_size h1, h2]

theorem cellsT_spec {P : Program} {t : TypeId} (h : cellsT P t ≠ 0) : cellsT P t = P.cellsOf t ∧ P.underlying t ≠ none ∧ (P.info? t).isSome = true := by
  unfold cellsT at *
  cases hu : P.underlying t with
  | none => simp [hu] at h
  | some d =>
    simp only [hu, Option.isSome_some, if_true] at h ⊢
    obtain ⟨i, h1, _⟩ := cells_info h
    exact ⟨trivial, by simp, by simp [h1]⟩

theorem tk_struct {P : Program} {t : TypeId} {fs : List (Nat × Nat × Bool)} {n : Nat} (h : tk P t = some (.struct fs, n)) :
    ∃ flds, P.underlying t = some (.struct flds) ∧ ∀ (f : Nat) fd, fs[f]? = some fd → ∃ fl, flds[f]? = some fl ∧ fd = (fl.offset, cellsT P fl.type, aggT P fl.type) := by
  obtain ⟨i, d, h1, h2, h3, _⟩ := tk_info h
  cases d <;> simp only [tkOf] at h3 <;> try (cases h3; done)
  rename_i flds
  refine ⟨flds, h2, fun f fd hf => ?_⟩
  simp only [TK.struct.injEq] at h3
  subst h3
  rw [List.getElem?_map] at hf
  cases hl : flds.toList[f]? with
  | none => rw [hl] at hf; simp at hf
  | some fl =>
    rw [hl] at hf
    simp only [Option.map_some, Option.some.injEq] at hf
    exact ⟨fl, by simpa using hl, hf.symm⟩

theorem tk_slice {P : Program} {t : TypeId} {e esz eb : Nat} {n : Nat} (h : tk P t = some (.slice e esz eb, n)) :
    P.underlying t = some (.slice e) ∧ eb = P.bytesOf e ∧ (esz ≠ 0 → esz = P.cellsOf e) := by
  obtain ⟨i, d, h1, h2, h3, _⟩ := tk_info h
  cases d <;> simp only [tkOf] at h3 <;> try (cases h3; done)
  simp only [TK.slice.injEq] at h3
  obtain ⟨rfl, rfl, rfl⟩ := h3
  exact ⟨h2, rfl, fun h => (cellsT_spec h).1⟩

theorem tk_arr {P : Program} {t : TypeId} {l e esz : Nat} {n : Nat} (h : tk P t = some (.arr l e esz, n)) :
    P.underlying t = some (.array l e) ∧ (esz ≠ 0 → esz = P.cellsOf e ∧ P.underlying e ≠ none) := by
  obtain ⟨i, d, h1, h2, h3, _⟩ := tk_info h
  cases d <;> simp only [tkOf] at h3 <;> try (cases h3; done)
  simp only [TK.arr.injEq] at h3
  obtain ⟨rfl, rfl, rfl⟩ := h3
  exact ⟨h2, fun h => ⟨(cellsT_spec h).1, (cellsT_spec h).2.1⟩⟩

theorem tk_str {P : Program} {t : TypeId} {n : Nat} (h : tk P t = some (.str, n)) : P.underlying t = some .string := by
  obtain ⟨i, d, h1, h2, h3, _⟩ := tk_info h
  cases d <;> simp only [tkOf] at h3 <;> try (cases h3; done)
  exact h2

theorem tk_int {P : Program} {t : TypeId} {n : Nat} {k : IntKind} (h : tk P t = some (.int k, n)) : P.underlying t = some (.int k) := by
  obtain ⟨i, d, h1, h2, h3, _⟩ := tk_info h
  cases d <;> simp only [tkOf] at h3 <;> try (cases h3; done)
  simp only [TK.int.injEq] at h3
  subst h3
  exact h2

/-- Part number i of what stands somewhere. -/
theorem Stand.part {m : Mem} {b off : Nat} {xs : List AV} {cs : List Value} (hs : Stand m.h b off cs) (hx : CRs m xs cs) {i : Nat} {y : AV} (hy : xs[i]? = some y) :
    ∃ c1, CR m y c1 ∧ Stand m.h b (off + AV.sizes (xs.take i)) c1 := by
  obtain ⟨c0, c1, c2, rfl, h1, h2, _⟩ := CRs.split xs i y cs hx hy
  exact ⟨c1, h2, by rw [← h1]; exact hs.sub⟩

theorem sizes_take {xs : List AV} {esz : Nat} (h : xs.all (·.size == esz) = true) : ∀ {i : Nat}, i ≤ xs.length → AV.sizes (xs.take i) = i * esz := by
  induction xs with
  | nil => intro i hi; simp at hi; subst hi; simp [AV.sizes]
  | cons x xs ih =>
    intro i hi
    simp only [List.all_cons, Bool.and_eq_true, beq_iff_eq] at h
    cases i with
    | zero => simp [AV.sizes]
    | succ i =>
      simp only [List.take_succ_cons, AV.sizes, h.1, ih h.2 (by simpa using hi), Nat.add_mul]
      omega

theorem VR.mk_ref {m : Mem} {x : AV} {b o : Nat} {cs : List Value} (hS : ¬ m.S b) (hx : CR m x cs) (hs : Stand m.h b o cs) : VR m (.ref x) (.pointer (some ⟨b, o, none⟩)) := by
  simp only [VR, VR1, CR]
  exact ⟨_, cs, rfl, rfl, hS, hx, hs⟩

theorem VR.mk_addr {m : Mem} {o ver i : Nat} {path : List Nat} {off : Nat} {v : Value} (h1 : v.oneCell' = true) (h : m.X (.addr o ver i path off) v) : VR m (.addr o ver i path off) v := by
  simp only [VR, VR1, CR]
  exact ⟨v, rfl, h1, h⟩

theorem VR.mk_own {m : Mem} {o ver off len : Nat} {v : Value} (h1 : v.oneCell' = true) (h : m.X (.own o ver off len) v) : VR m (.own o ver off len) v := by
  simp only [VR, VR1, CR]
  exact ⟨v, rfl, h1, h⟩

theorem good_fieldAddr_ref (h : Rel c σ a w β) {t : TypeId} {x : Operand} {f : Nat} {o : Oper} {fs : List (Nat × Nat × Bool)} {n : Nat} {xs : List AV} {fd : Nat × Nat × Bool} {y : AV}
    (ho : o.op = .fieldAddr t x f) (ht : tk c.P t = some (.struct fs, n)) (hx : σ.rd x = .ref (.agg xs)) (hf : fs[f]? = some fd) (hy : xs[f]? = some y)
    (hoff : AV.sizes (xs.take f) = fd.1) (hsz : fd.2.1 ≠ 0) : Good c σ.L β w (.ref y) σ.L ((execOp a.eval o).run c.P w) := by
  obtain ⟨flds, hu, hfl⟩ := tk_struct ht
  obtain ⟨fl, e1, rfl⟩ := hfl f fd hf
  obtain ⟨ad, c1, g1, g2, g3, g4, g5⟩ := (hx ▸ h.rd x : VR _ (.ref (.agg xs)) _).ref
  simp only [CR] at g4
  obtain ⟨c2, k1, k2⟩ := g5.part g4 hy
  simp only at hsz hoff
  have hsz' : c.P.cellsOf fl.type ≠ 0 := by rw [← (cellsT_spec hsz).1]; exact hsz
  rw [hoff] at k2
  refine Good.pure h (v := .pointer (some ⟨ad.block, ad.off + fl.offset, none⟩)) ?_ (VR.mk_ref g3 k1 k2)
  simp [execOp, ho, Instr.fieldAt, run_und hu, e1, g1, Instr.sureAddr, fieldPlace, run_sizeOf_cells hsz', hsz', Addr.add_spot g2]

theorem good_fieldAddr_addr (h : Rel c σ a w β) {t : TypeId} {x : Operand} {f : Nat} {o : Oper} {fs : List (Nat × Nat × Bool)} {n : Nat} {fd : Nat × Nat × Bool} {oo ver i : Nat} {path : List Nat} {off : Nat} {obj : AObj}
    (ho : o.op = .fieldAddr t x f) (ht : tk c.P t = some (.struct fs, n)) (hx : σ.rd x = .addr oo ver i path off) (hf : fs[f]? = some fd) (hL : σ.L[oo]? = some obj) (hver : obj.ver = ver)
    (hsz : fd.2.1 ≠ 0) : Good c σ.L β w (.addr oo ver i (path ++ [f]) (off + fd.1)) σ.L ((execOp a.eval o).run c.P w) := by
  obtain ⟨flds, hu, hfl⟩ := tk_struct ht
  obtain ⟨fl, e1, rfl⟩ := hfl f fd hf
  obtain ⟨po, k1, k2, k3⟩ := h.addr hx hL hver
  simp only at hsz
  have hsz' : c.P.cellsOf fl.type ≠ 0 := by rw [← (cellsT_spec hsz).1]; exact hsz
  refine Good.pure h (v := .pointer (some ⟨po.b, i * obj.esz + (off + fl.offset), none⟩)) ?_ (VR.mk_addr rfl ?_)
  · simp [execOp, ho, Instr.fieldAt, run_und hu, e1, k3, Instr.sureAddr, fieldPlace, run_sizeOf_cells hsz', hsz', Addr.add_none, Nat.add_assoc]
  · simp only [memOf, ownX]
    exact ⟨obj, po, hL, k1, by omega, fun _ => ⟨k2, rfl⟩⟩

/-- Part of an aggregate's cells. -/
theorem run_part {P : Program} {w : World} {m : Mem} {t : TypeId} {cs : List Value} {xs : List AV} (hx : CRs m xs cs) {i : Nat} {y : AV} (hy : xs[i]? = some y) {sz : Nat} (hsz : y.size = sz)
    (hc : P.cellsOf t = sz) (hi : (P.info? t).isSome = true) (hu : P.underlying t ≠ none) (hsh : y.shaped (aggT P t) = true) :
    ∃ v, (Go.part t cs.toArray (AV.sizes (xs.take i))).run P w = .ok v w ∧ VR m y v := by
  obtain ⟨c0, c1, c2, rfl, h1, h2, _⟩ := CRs.split xs i y cs hx hy
  have hlen := CR.length _ _ h2
  obtain ⟨inf, hinf⟩ := Option.isSome_iff_exists.1 hi
  obtain ⟨d, hd⟩ := Option.ne_none_iff_exists'.1 hu
  have hcells : inf.size = sz := by rw [← hc]; unfold Program.cellsOf; rw [hinf]; rfl
  unfold Go.part
  rw [aggT_eq hd] at hsh
  simp only [Sem.run_bind, run_agg hd, Result.andThen_ok]
  cases hk : (tkOf P d).isAgg with
  | true =>
    rw [hk] at hsh
    simp only [if_true, Sem.run_bind, run_size hinf, Result.andThen_ok, Sem.run_pure]
    refine ⟨_, rfl, ?_⟩
    have : ((c0 ++ c1 ++ c2).toArray.extract (AV.sizes (xs.take i)) (AV.sizes (xs.take i) + inf.size)) = c1.toArray := by
      rw [hcells, ← hsz, ← hlen, ← h1]
      simp [List.extract_toArray, List.drop_append, List.take_append]
    rw [this]
    exact VR.shaped_agg h2 hsh
  | false =>
    rw [hk] at hsh
    obtain ⟨v, rfl, hv⟩ := VR.shaped_one h2 hsh
    refine ⟨v, ?_, hv⟩
    have : (c0 ++ v :: c2)[AV.sizes (xs.take i)]? = some v := by
      rw [← h1]; simp
    simp [this]

theorem good_field (h : Rel c σ a w β) {t : TypeId} {x : Operand} {f : Nat} {o : Oper} {fs : List (Nat × Nat × Bool)} {n : Nat} {xs : List AV} {fd : Nat × Nat × Bool} {y : AV}
    (ho : o.op = .field t x f) (ht : tk c.P t = some (.struct fs, n)) (hx : σ.rd x = .agg xs) (hf : fs[f]? = some fd) (hy : xs[f]? = some y)
    (hoff : AV.sizes (xs.take f) = fd.1) (hsz : y.size = fd.2.1) (hpos : fd.2.1 ≠ 0)
    (hsh : y.shaped fd.2.2 = true) : Good c σ.L β w y σ.L ((execOp a.eval o).run c.P w) := by
  obtain ⟨flds, hu, hfl⟩ := tk_struct ht
  obtain ⟨fl, e1, rfl⟩ := hfl f fd hf
  obtain ⟨cs, g1, g2⟩ := (hx ▸ h.rd x : VR _ (.agg xs) _).agg
  obtain ⟨q1, q2, q3⟩ := cellsT_spec hpos
  obtain ⟨v, r1, r2⟩ := run_part (P := c.P) (w := w) g2 hy hsz q1.symm q3 q2 hsh
  refine Good.pure h (v := v) ?_ r2
  rw [hoff] at r1
  simp [execOp, ho, Instr.field, run_und hu, e1, g1, asAgg, r1]

theorem asIntOf_int {P : Program} {w : World} (k : IntKind) (n : Int) : (asIntOf (.int k n)).run P w = .ok (k, n) w := rfl

theorem good_indexAddr_slice (h : Rel c σ a w β) {t : TypeId} {x ix : Operand} {o : Oper} {e esz eb n : Nat} {xs : List AV} {k : IntKind} {i : Int} {y : AV}
    (ho : o.op = .indexAddr t x ix) (ht : tk c.P t = some (.slice e esz eb, n)) (hx : σ.rd x = .slice xs) (hi : σ.rd ix = .int k i) (h0 : 0 ≤ i) (hy : xs[i.toNat]? = some y)
    (hall : xs.all (·.size == esz) = true) (hpos : esz ≠ 0) : Good c σ.L β w (.ref y) σ.L ((execOp a.eval o).run c.P w) := by
  obtain ⟨hu, rfl, hz⟩ := tk_slice ht
  obtain rfl := hz hpos
  have hiv := (hi ▸ h.rd ix : VR _ (.int k i) _).int
  obtain ⟨ad?, cap, g1, g2, g3⟩ := (hx ▸ h.rd x : VR _ (.slice xs) _).slice
  have hlt := (List.getElem?_eq_some_iff.1 hy).1
  rcases g3 with rfl | ⟨ad, sz, rfl, g4, g5, g6⟩
  · simp at hlt
  · obtain ⟨cs, k1, k2, k3⟩ := CRrow_iff.1 g6 _ _ hy
    have hsz : sz = c.P.cellsOf e := by
      rw [← k2, CR.length _ _ k1]
      have := List.all_eq_true.1 hall y (List.mem_of_getElem? hy)
      simpa using this
    rw [hsz] at k3
    refine Good.pure h (v := .pointer (some ⟨ad.block, ad.off + i.toNat * c.P.cellsOf e, none⟩)) ?_ (VR.mk_ref g5 k1 k3)
    have hb : 0 ≤ i ∧ i < (xs.length : Int) := ⟨h0, by omega⟩
    simp [execOp, ho, Instr.indexAt, hiv, asIntOf_int, run_und hu, g1, hb, run_sizeOf_cells hpos, Addr.add_spot g4]

theorem Rel.own (h : Rel c σ a w β) {x : Operand} {o ver off len : Nat} {obj : AObj} (hx : σ.rd x = .own o ver off len)
    (hL : σ.L[o]? = some obj) (hv : obj.ver = ver) (hn : obj.nil = false) : ∃ po ad cap, β[o]? = some po ∧ a.eval x = .slice (some ad) len cap ∧ ad.block = po.b ∧ ad.spot = none ∧ len ≤ cap ∧
      (cap ≠ 0 → ad.off = off * obj.esz) ∧ (off + cap) * obj.esz ≤ po.n := by
  have := (hx ▸ h.rd x : VR _ (.own o ver off len) _).own
  simp only [memOf, ownX] at this
  obtain ⟨ob, po, k1, k2, k3, k4⟩ := this
  rw [hL] at k1
  obtain rfl := Option.some.inj k1
  have k5 := k4 hv
  rw [if_neg (by simp [hn])] at k5
  obtain ⟨ad, cap, e1, e2, e3, e4, e5, e6⟩ := k5
  exact ⟨po, ad, cap, k2, e1, e2, e3, e4, e5, e6⟩

theorem good_indexAddr_own (h : Rel c σ a w β) {t : TypeId} {x ix : Operand} {o : Oper} {e esz eb n : Nat} {oo ver off len : Nat} {obj : AObj} {k : IntKind} {i : Int}
    (ho : o.op = .indexAddr t x ix) (ht : tk c.P t = some (.slice e esz eb, n)) (hx : σ.rd x = .own oo ver off len) (hi : σ.rd ix = .int k i) (hL : σ.L[oo]? = some obj) (h0 : 0 ≤ i) (h1 : i < len)
    (hver : obj.ver = ver) (hnil : obj.nil = false) (hesz : obj.esz = esz) : Good c σ.L β w (.addr oo ver (off + i.toNat) [] 0) σ.L ((execOp a.eval o).run c.P w) := by
  obtain ⟨hu, rfl, hz⟩ := tk_slice ht
  have hiv := (hi ▸ h.rd ix : VR _ (.int k i) _).int
  obtain ⟨po, ad, cap, g1, g2, g3, g4, g5, g6, g7⟩ := h.own hx hL hver hnil
  have hpos := h.heap.esz oo obj po hL g1 hnil
  obtain rfl := hz (by omega)
  have hoff := g6 (by omega)
  refine Good.pure h (v := .pointer (some ⟨po.b, (off + i.toNat) * obj.esz + 0, none⟩)) ?_ (VR.mk_addr rfl ?_)
  · have hb : 0 ≤ i ∧ i < (len : Int) := ⟨h0, h1⟩
    simp [execOp, ho, Instr.indexAt, hiv, asIntOf_int, run_und hu, g2, hb, run_sizeOf_cells (show c.P.cellsOf e ≠ 0 by omega), Addr.add_spot g4, g3, hoff, ← hesz, Nat.add_mul]
  · simp only [memOf, ownX]
    exact ⟨obj, po, hL, g1, by omega, fun _ => ⟨hnil, rfl⟩⟩

theorem good_indexAddr_arr_ref (h : Rel c σ a w β) {t : TypeId} {x ix : Operand} {o : Oper} {l e esz n : Nat} {xs : List AV} {k : IntKind} {i : Int} {y : AV}
    (ho : o.op = .indexAddr t x ix) (ht : tk c.P t = some (.arr l e esz, n)) (hx : σ.rd x = .ref (.agg xs)) (hi : σ.rd ix = .int k i) (h0 : 0 ≤ i) (h1 : i < l) (hy : xs[i.toNat]? = some y)
    (hall : xs.all (·.size == esz) = true) (hpos : esz ≠ 0) : Good c σ.L β w (.ref y) σ.L ((execOp a.eval o).run c.P w) := by
  obtain ⟨hu, hz⟩ := tk_arr ht
  obtain ⟨rfl, hund⟩ := hz hpos
  have hiv := (hi ▸ h.rd ix : VR _ (.int k i) _).int
  obtain ⟨ad, c1, g1, g2, g3, g4, g5⟩ := (hx ▸ h.rd x : VR _ (.ref (.agg xs)) _).ref
  simp only [CR] at g4
  obtain ⟨c2, k1, k2⟩ := g5.part g4 hy
  have hlt := (List.getElem?_eq_some_iff.1 hy).1
  rw [sizes_take hall (by omega)] at k2
  refine Good.pure h (v := .pointer (some ⟨ad.block, ad.off + i.toNat * c.P.cellsOf e, none⟩)) ?_ (VR.mk_ref g3 k1 k2)
  have hb : 0 ≤ i ∧ i < (l : Int) := ⟨h0, h1⟩
  simp [execOp, ho, Instr.indexAt, hiv, asIntOf_int, run_und hu, g1, Instr.sureAddr, hb, run_sizeOf_cells hpos, Addr.add_spot g2]

theorem good_indexAddr_arr_addr (h : Rel c σ a w β) {t : TypeId} {x ix : Operand} {o : Oper} {l e esz n : Nat} {oo ver i' : Nat} {path : List Nat} {off : Nat} {obj : AObj} {k : IntKind} {i : Int}
    (ho : o.op = .indexAddr t x ix) (ht : tk c.P t = some (.arr l e esz, n)) (hx : σ.rd x = .addr oo ver i' path off) (hi : σ.rd ix = .int k i) (hL : σ.L[oo]? = some obj) (h0 : 0 ≤ i) (h1 : i < l)
    (hver : obj.ver = ver) (hpos : esz ≠ 0) : Good c σ.L β w (.addr oo ver i' (path ++ [i.toNat]) (off + i.toNat * esz)) σ.L ((execOp a.eval o).run c.P w) := by
  obtain ⟨hu, hz⟩ := tk_arr ht
  obtain ⟨rfl, hund⟩ := hz hpos
  have hiv := (hi ▸ h.rd ix : VR _ (.int k i) _).int
  obtain ⟨po, k1, k2, k3⟩ := h.addr hx hL hver
  refine Good.pure h (v := .pointer (some ⟨po.b, i' * obj.esz + (off + i.toNat * c.P.cellsOf e), none⟩)) ?_ (VR.mk_addr rfl ?_)
  · have hb : 0 ≤ i ∧ i < (l : Int) := ⟨h0, h1⟩
    simp [execOp, ho, Instr.indexAt, hiv, asIntOf_int, run_und hu, k3, Instr.sureAddr, hb, run_sizeOf_cells hpos, Addr.add_none, Nat.add_assoc]
  · simp only [memOf, ownX]
    exact ⟨obj, po, hL, k1, by omega, fun _ => ⟨k2, rfl⟩⟩

theorem good_index_arr (h : Rel c σ a w β) {t : TypeId} {x ix : Operand} {o : Oper} {l e esz n : Nat} {xs : List AV} {k : IntKind} {i : Int} {y : AV}
    (ho : o.op = .index t x ix) (ht : tk c.P t = some (.arr l e esz, n)) (hx : σ.rd x = .agg xs) (hi : σ.rd ix = .int k i) (h0 : 0 ≤ i) (h1 : i < l) (hy : xs[i.toNat]? = some y)
    (hall : xs.all (·.size == esz) = true) (hpos : esz ≠ 0) (hsh : y.shaped (aggT c.P e) = true) : Good c σ.L β w y σ.L ((execOp a.eval o).run c.P w) := by
  obtain ⟨hu, hz⟩ := tk_arr ht
  obtain ⟨rfl, hund⟩ := hz hpos
  have hiv := (hi ▸ h.rd ix : VR _ (.int k i) _).int
  obtain ⟨cs, g1, g2⟩ := (hx ▸ h.rd x : VR _ (.agg xs) _).agg
  obtain ⟨inf, hinf, _⟩ := cells_info hpos
  have hlt := (List.getElem?_eq_some_iff.1 hy).1
  have hsz : y.size = c.P.cellsOf e := by simpa using List.all_eq_true.1 hall y (List.mem_of_getElem? hy)
  obtain ⟨v, r1, r2⟩ := run_part (P := c.P) (w := w) g2 hy hsz rfl (by simp [hinf]) hund hsh
  rw [sizes_take hall (by omega)] at r1
  refine Good.pure h (v := v) ?_ r2
  have hb : 0 ≤ i ∧ i < (l : Int) := ⟨h0, h1⟩
  simp [execOp, ho, Instr.index, hiv, asIntOf_int, run_und hu, g1, hb, run_sizeOf_cells hpos, r1]

theorem good_index_str (h : Rel c σ a w β) {t : TypeId} {x ix : Operand} {o : Oper} {n : Nat} {s : ByteArray} {k : IntKind} {i : Int} {b : UInt8}
    (ho : o.op = .index t x ix) (ht : tk c.P t = some (.str, n)) (hx : σ.rd x = .str s) (hi : σ.rd ix = .int k i) (h0 : 0 ≤ i) (hy : s.data[i.toNat]? = some b) :
    Good c σ.L β w (.int .u8 b.toNat) σ.L ((execOp a.eval o).run c.P w) := by
  have hu := tk_str ht
  have hiv := (hi ▸ h.rd ix : VR _ (.int k i) _).int
  have hxv := (hx ▸ h.rd x : VR _ (.str s) _).str
  refine Good.pure h (v := .int .u8 b.toNat) ?_ (VR.mk_int _ _ _)
  have hs : s[i.toNat]? = some b := by
    obtain ⟨hlt, hb⟩ := Array.getElem?_eq_some_iff.1 hy
    have hlt' : i.toNat < s.size := hlt
    rw [getElem?_pos s i.toNat hlt']
    congr 1
  simp [execOp, ho, Instr.index, hiv, asIntOf_int, run_und hu, hxv, h0, hs]

end Go.Proofs.Ytpneikbihcoaaab.Vm

/- What an operation gives is what the machine does: new memory. -/
import Derived.Test.YtpneikbihcoaaabVm8
namespace Go.Proofs.Ytpneikbihcoaaab.Vm
set_option linter.unusedVariables false
set_option linter.unusedSimpArgs false

variable {c : Ctx} {σ : AState} {a : Act} {w : World} {β : List PO}

theorem CR.ofV {m : Mem} {v : Value} (h : v.oneCell' = true) : CR m (AV.ofV v) [v] := by
  unfold AV.ofV
  split <;> simp [CR]
  exact h

mutual
theorem ofCells_sound {P : Program} : ∀ (d : Nat) (t : TypeId) (cs : List Value) (x : AV) (r : List Value), ofCells P d t cs = some (x, r) → ∃ c1, cs = c1 ++ r ∧ ∀ m, CR m x c1
  | 0, _, _, _, _, h => by simp [ofCells] at h
  | d + 1, t, cs, x, r, h => by
    unfold ofCells at h
    split at h
    · simp only [Option.map_eq_some_iff] at h
      obtain ⟨⟨xs, r'⟩, h1, h2⟩ := h
      simp only [Prod.mk.injEq] at h2
      obtain ⟨rfl, rfl⟩ := h2
      obtain ⟨c1, e1, e2⟩ := ofCellsL_sound d _ cs xs r' h1
      exact ⟨c1, e1, fun m => by simpa [CR] using e2 m⟩
    · simp only [Option.map_eq_some_iff] at h
      obtain ⟨⟨xs, r'⟩, h1, h2⟩ := h
      simp only [Prod.mk.injEq] at h2
      obtain ⟨rfl, rfl⟩ := h2
      obtain ⟨c1, e1, e2⟩ := ofCellsL_sound d _ cs xs r' h1
      exact ⟨c1, e1, fun m => by simpa [CR] using e2 m⟩
    · split at h
      · split at h
        · rename_i v r' hv
          simp only [Option.some.injEq, Prod.mk.injEq] at h
          obtain ⟨rfl, rfl⟩ := h
          exact ⟨[v], rfl, fun m => CR.ofV hv⟩
        · cases h
      · cases h
theorem ofCellsL_sound {P : Program} : ∀ (d : Nat) (ts : List TypeId) (cs : List Value) (xs : List AV) (r : List Value), ofCellsL P d ts cs = some (xs, r) → ∃ c1, cs = c1 ++ r ∧ ∀ m, CRs m xs c1
  | 0, _, _, _, _, h => by simp [ofCellsL] at h
  | d + 1, [], cs, xs, r, h => by
    simp only [ofCellsL, Option.some.injEq, Prod.mk.injEq] at h
    obtain ⟨rfl, rfl⟩ := h
    exact ⟨[], rfl, fun m => by simp [CRs]⟩
  | d + 1, t :: ts, cs, xs, r, h => by
    simp only [ofCellsL, Option.bind_eq_some_iff, Option.map_eq_some_iff] at h
    obtain ⟨⟨x, r1⟩, h1, ⟨ys, r2⟩, h2, h3⟩ := h
    simp only [Prod.mk.injEq] at h3
    obtain ⟨rfl, rfl⟩ := h3
    obtain ⟨c1, rfl, e2⟩ := ofCells_sound d t cs x r1 h1
    obtain ⟨c2, rfl, e4⟩ := ofCellsL_sound d ts r1 ys r2 h2
    exact ⟨c1 ++ c2, by simp, fun m => by simp only [CRs]; exact ⟨c1, c2, rfl, e2 m, e4 m⟩⟩
end

theorem zav_sound {P : Program} {t : TypeId} {x : AV} (h : zav P t = some x) : ∃ i v, P.info? t = some i ∧ i.zero = some v ∧ ∀ m, CR m x v.cells.toList := by
  unfold zav at h
  split at h
  · rename_i i hi
    split at h
    · rename_i v hv
      split at h
      · rename_i y hy
        simp only [Option.some.injEq] at h
        subst h
        obtain ⟨c1, e1, e2⟩ := ofCells_sound _ _ _ _ _ hy
        simp only [List.append_nil] at e1
        exact ⟨i, v, hi, hv, fun m => by rw [e1]; exact e2 m⟩
      · cases h
    · cases h
  · cases h

theorem run_zero {P : Program} {w : World} {t : TypeId} {i : TypeInfo} {v : Value} (h : P.info? t = some i) (hz : i.zero = some v) : (zeroValue t).run P w = .ok v w := by
  unfold zeroValue
  simp [run_typeInfo w h, hz]

theorem CRs.cat {m : Mem} {esz : Nat} : ∀ {xs : List AV} {cs : List Value} (rest : List Value), CRs m xs cs → xs.all (·.size == esz) = true → CRcat m esz xs (cs ++ rest)
  | [], cs, rest, h, _ => trivial
  | x :: xs, cs, rest, h, ha => by
    simp only [CRs] at h
    obtain ⟨c1, c2, rfl, h2, h3⟩ := h
    simp only [List.all_cons, Bool.and_eq_true, beq_iff_eq] at ha
    exact ⟨c1, c2 ++ rest, by simp, h2, by rw [CR.length _ _ h2, ha.1], CRs.cat rest h3 ha.2⟩

/-- A new object. -/
theorem Rel.allocF (h : Rel c σ a w β) {w' : World} {esz : Nat} {elems : List AV} {cs : List Value} {e : TypeId} {fr : Nat × Nat} (hfr : ∀ j, j < cs.length → ¬ (fr.1 ≤ j ∧ j < fr.2)) (hpos : 0 < esz)
    (hcs : CRcat (memOf w.heap σ.L β c.S0) esz elems cs)
    (h1 : w'.heap = w.heap.push (.cells cs.toArray e fr)) (h2 : w'.os = w.os) (h3 : w'.tape = w.tape) (h4 : w'.output = w.output) :
    (memOf w.heap σ.L β c.S0).Le (memOf w'.heap (σ.L ++ [⟨0, esz, false, false, elems⟩]) (β ++ [⟨w.heap.size, cs.length⟩]) c.S0) ∧
    HeapRel w'.heap (σ.L ++ [⟨0, esz, false, false, elems⟩]) (β ++ [⟨w.heap.size, cs.length⟩]) c.S0 c.W ∧ Ext c w' := by
  have hS : ¬ c.S0 w.heap.size := fun hs => by have := h.S0 _ hs; have := h.ext.size; omega
  refine ⟨?_, ?_, ?_⟩
  · rw [h1]
    exact Mem.Le.snoc h.heap.len (by simp) (fun b hb => Heap.push_get hb) (fun _ => Nat.le_refl _)
  · rw [h1]
    exact h.heap.snoc hS (.inl h.ext.size) hpos rfl hcs fr hfr
  · refine ⟨h2.trans h.ext.os, h3.trans h.ext.tape, h4.trans h.ext.output, ?_, fun k hk hn => ?_⟩
    · rw [h1]; simp; have := h.ext.size; omega
    · rw [h1, Heap.push_get (by have := h.ext.size; omega)]
      exact h.ext.block k hk hn

theorem Rel.alloc (h : Rel c σ a w β) {w' : World} {esz : Nat} {elems : List AV} {cs : List Value} {e : TypeId} (hpos : 0 < esz) (hcs : CRcat (memOf w.heap σ.L β c.S0) esz elems cs)
    (h1 : w'.heap = w.heap.push (.cells cs.toArray e (0, 0))) (h2 : w'.os = w.os) (h3 : w'.tape = w.tape) (h4 : w'.output = w.output) :
    (memOf w.heap σ.L β c.S0).Le (memOf w'.heap (σ.L ++ [⟨0, esz, false, false, elems⟩]) (β ++ [⟨w.heap.size, cs.length⟩]) c.S0) ∧
    HeapRel w'.heap (σ.L ++ [⟨0, esz, false, false, elems⟩]) (β ++ [⟨w.heap.size, cs.length⟩]) c.S0 c.W ∧ Ext c w' :=
  h.allocF (fun j _ => by simp) hpos hcs h1 h2 h3 h4

theorem ownX_new_addr (L : List AObj) (β : List PO) (hl : β.length = L.length) (esz b n : Nat) (elems : List AV) :
    ownX (L ++ [⟨0, esz, false, false, elems⟩]) (β ++ [⟨b, n⟩]) (.addr L.length 0 0 [] 0) (.pointer (some ⟨b, 0, none⟩)) := by
  simp only [ownX]
  exact ⟨_, _, by rw [List.getElem?_append_right (Nat.le_refl _)]; simp; rfl, by rw [← hl, List.getElem?_append_right (Nat.le_refl _)]; simp; rfl, by simp, fun _ => by simp⟩

theorem ownX_new_own (L : List AObj) (β : List PO) (hl : β.length = L.length) (esz b n len cap : Nat) (elems : List AV) (h1 : len ≤ cap) (h2 : cap * esz ≤ n) :
    ownX (L ++ [⟨0, esz, false, false, elems⟩]) (β ++ [⟨b, n⟩]) (.own L.length 0 0 len) (.slice (some ⟨b, 0, none⟩) len cap) := by
  simp only [ownX]
  exact ⟨_, _, by rw [List.getElem?_append_right (Nat.le_refl _)]; simp; rfl, by rw [← hl, List.getElem?_append_right (Nat.le_refl _)]; simp; rfl, by simp, fun _ => by rw [if_neg (by simp)]; exact ⟨_, _, rfl, rfl, rfl, h1, by simp, by simpa using h2⟩⟩

theorem good_alloc (h : Rel c σ a w β) {t : TypeId} {o : Oper} {z : AV} (ho : o.op = .alloc t) (hz : zav c.P t = some z) (hpos : 0 < z.size) :
    Good c σ.L β w (.addr σ.L.length 0 0 [] 0) (σ.L ++ [⟨0, z.size, false, false, [z]⟩]) ((execOp a.eval o).run c.P w) := by
  obtain ⟨i, v, h1, h2, h3⟩ := zav_sound hz
  have hcr := h3 (memOf w.heap σ.L β c.S0)
  have hcat : CRcat (memOf w.heap σ.L β c.S0) z.size [z] v.cells.toList := ⟨v.cells.toList, [], by simp, hcr, CR.length _ _ hcr, trivial⟩
  obtain ⟨g1, g2, g3⟩ := h.alloc (w' := { w with heap := w.heap.push (.cells v.cells t (0, 0)) }) (e := t) hpos hcat (by simp) rfl rfl rfl
  refine ⟨_, .pointer (some ⟨w.heap.size, 0, none⟩), _, _, ?_, .inl rfl, g1, g2, g3, VR.mk_addr rfl (ownX_new_addr _ _ h.heap.len _ _ _ _)⟩
  simp [execOp, ho, Instr.alloc, run_zero h1 h2, newVar, newRow]

theorem good_box (h : Rel c σ a w β) {t : TypeId} {x : Operand} {o : Oper} (ho : o.op = .box t x) (hm : (σ.rd x).memo = true) (hpos : 0 < (σ.rd x).size) :
    Good c σ.L β w (.addr σ.L.length 0 0 [] 0) (σ.L ++ [⟨0, (σ.rd x).size, false, false, [σ.rd x]⟩]) ((execOp a.eval o).run c.P w) := by
  have hcr := ((h.rd x).memo hm).1
  have hcat : CRcat (memOf w.heap σ.L β c.S0) (σ.rd x).size [σ.rd x] (a.eval x).cells.toList := ⟨(a.eval x).cells.toList, [], by simp, hcr, CR.length _ _ hcr, trivial⟩
  obtain ⟨g1, g2, g3⟩ := h.alloc (w' := { w with heap := w.heap.push (.cells (a.eval x).cells t (0, 0)) }) (e := t) hpos hcat (by simp) rfl rfl rfl
  refine ⟨_, .pointer (some ⟨w.heap.size, 0, none⟩), _, _, ?_, .inl rfl, g1, g2, g3, VR.mk_addr rfl (ownX_new_addr _ _ h.heap.len _ _ _ _)⟩
  simp [execOp, ho, Instr.box, newVar, newRow]

/-! ### What is built -/

theorem zipIdx_fill (off : Nat) : ∀ (vs : List Value) (k : Nat) (cells : Array Value) (A B D : List Value), cells.toList = A ++ B ++ D → A.length = off + k → B.length = vs.length →
    ((vs.zipIdx k).foldl (fun (cs : Array Value) (p : Value × Nat) => cs.setIfInBounds (off + p.2) p.1) cells).toList = A ++ vs ++ D
  | [], k, cells, A, B, D, h, hA, hB => by
    have : B = [] := List.length_eq_zero_iff.1 (by simpa using hB)
    subst this
    simpa using h
  | v :: vs, k, cells, A, B, D, h, hA, hB => by
    cases B with
    | nil => simp at hB
    | cons b B =>
      simp only [List.zipIdx_cons, List.foldl_cons]
      have := zipIdx_fill off vs (k + 1) (cells.setIfInBounds (off + k) v) (A ++ [v]) B D (by
        rw [Array.toList_setIfInBounds, h, ← hA]
        simp [List.set_append]) (by simp [hA]; omega) (by simpa using hB)
      rw [this]
      simp

theorem fill_sound {m : Mem} {place : Nat → Option (Nat × Nat)} : ∀ (parts : List (Nat × AV)) (vals : List (Nat × Value)) (xs ys : List AV) (cells : Array Value), CRs m xs cells.toList →
    fillAV xs parts place = some ys → vals.length = parts.length → (∀ (i : Nat) (p : Nat × AV) (q : Nat × Value), parts[i]? = some p → vals[i]? = some q → q.1 = p.1 ∧ VR m p.2 q.2) →
    ∃ cells', Instr.fill place cells vals = some cells' ∧ CRs m ys cells'.toList
  | [], vals, xs, ys, cells, hx, hf, hl, _ => by
    simp [fillAV] at hf
    subst hf
    have : vals = [] := List.length_eq_zero_iff.1 (by simpa using hl)
    subst this
    exact ⟨cells, rfl, hx⟩
  | (i, y) :: parts, vals, xs, ys, cells, hx, hf, hl, hv => by
    cases vals with
    | nil => simp at hl
    | cons q vals =>
      obtain ⟨i', v⟩ := q
      have h0 := hv 0 (i, y) (i', v) rfl rfl
      simp only at h0
      obtain ⟨rfl, hy⟩ := h0
      simp only [fillAV] at hf
      split at hf
      · rename_i x off sz hxi hp
        split at hf
        · rename_i hc
          obtain ⟨c1, c2, c3, c4⟩ := hc
          obtain ⟨d0, d1, d2, e1, e2, e3, e4⟩ := CRs.split xs _ x cells.toList hx hxi
          have hcr := (hy.memo c1).1
          have l1 : d1.length = sz := by rw [CR.length _ _ e3, c2]
          have l2 : v.cells.size = sz := by rw [hy.size c1, c3]
          have lt : cells.size = d0.length + d1.length + d2.length := by rw [← Array.length_toList, e1]; simp [Nat.add_assoc]
          have hz := zipIdx_fill off v.cells.toList 0 cells d0 d1 d2 e1 (by omega) (by simp only [Array.length_toList]; omega)
          have hnew : (v.cells.zipIdx.foldl (fun (cs : Array Value) (p : Value × Nat) => cs.setIfInBounds (off + p.2) p.1) cells).toList = d0 ++ v.cells.toList ++ d2 := by
            rw [← Array.foldl_toList, Array.toList_zipIdx, hz]
          obtain ⟨cells', g1, g2⟩ := fill_sound parts vals (xs.set i' y) ys _ (by rw [hnew]; exact e4 m (Mem.Le.refl _) y _ hcr) hf (by simpa using hl)
            (fun k p q hp hq => hv (k + 1) p q (by simpa using hp) (by simpa using hq))
          refine ⟨cells', ?_, g2⟩
          simp only [Instr.fill, hp]
          rw [if_neg]
          · exact g1
          · simp only [ne_eq, Bool.or_eq_true, decide_eq_true_eq, not_or]
            exact ⟨by omega, by omega⟩
        · cases hf
      · cases hf

theorem parts_rel (h : Rel c σ a w β) (parts : Array (Nat × Operand)) : ∀ (i : Nat) (p : Nat × AV) (q : Nat × Value), (parts.toList.map fun (i, x) => (i, σ.rd x))[i]? = some p →
    ((parts.map fun (i, x) => (i, a.eval x)).toList)[i]? = some q → q.1 = p.1 ∧ VR (memOf w.heap σ.L β c.S0) p.2 q.2 := by
  intro i p q hp hq
  simp only [Array.toList_map, List.getElem?_map] at hp hq
  cases hi : parts.toList[i]? with
  | none => rw [hi] at hp; simp at hp
  | some u =>
    rw [hi] at hp hq
    simp only [Option.map_some, Option.some.injEq] at hp hq
    subst hp hq
    exact ⟨rfl, h.rd u.2⟩

theorem good_build_struct (h : Rel c σ a w β) {t : TypeId} {parts : Array (Nat × Operand)} {o : Oper} {fs : List (Nat × Nat × Bool)} {n : Nat} {xs ys : List AV} (ho : o.op = .build t parts)
    (ht : tk c.P t = some (.struct fs, n)) (hz : zav c.P t = some (.agg xs))
    (hf : fillAV xs (parts.toList.map fun (i, x) => (i, σ.rd x)) (fun i => (fs[i]?).map fun f => (f.1, f.2.1)) = some ys) (hpos : fs.all (fun f => f.2.1 != 0) = true) :
    Good c σ.L β w (.agg ys) σ.L ((execOp a.eval o).run c.P w) := by
  obtain ⟨inf, zv, h1, h2, h3⟩ := zav_sound hz
  obtain ⟨i2, d, k1, k2, k3, _⟩ := tk_info ht
  cases d <;> simp only [tkOf] at k3 <;> try (cases k3; done)
  rename_i flds
  simp only [TK.struct.injEq] at k3
  have hcr := h3 (memOf w.heap σ.L β c.S0)
  simp only [CR] at hcr
  obtain ⟨cells', g1, g2⟩ := fill_sound _ ((parts.map fun (i, x) => (i, a.eval x)).toList) xs ys zv.cells hcr hf (by simp) (parts_rel h parts)
  refine Good.pure h (v := .agg cells') ?_ ?_
  · have hpl : ∀ (fl : List Field), (∀ f ∈ fl, cellsT c.P f.type ≠ 0) → ∀ w, (fl.mapM (fun f => (do pure (f.offset, ← sizeOf f.type) : Sem (Nat × Nat)))).run c.P w = .ok (fl.map fun f => (f.offset, cellsT c.P f.type)) w := by
      intro fl
      induction fl with
      | nil => intro _ w; simp
      | cons f fl ih =>
        intro hall w
        have hf0 := hall f (by simp)
        have := (cellsT_spec hf0).1
        simp only [List.mapM_cons, Sem.run_bind, run_sizeOf_cells (show c.P.cellsOf f.type ≠ 0 by rw [← this]; exact hf0), Result.andThen_ok, Sem.run_pure, ih (fun g hg => hall g (by simp [hg])), List.map_cons, this]
    have hall : ∀ f ∈ flds.toList, cellsT c.P f.type ≠ 0 := fun f hfm => by
      have := List.all_eq_true.1 hpos (f.offset, cellsT c.P f.type, aggT c.P f.type) (by rw [k3]; exact List.mem_map.2 ⟨f, hfm, rfl⟩)
      simpa using this
    have hmap : (flds.mapM (fun f => (do pure (f.offset, ← sizeOf f.type) : Sem (Nat × Nat)))).run c.P w = .ok ((flds.toList.map fun f => (f.offset, cellsT c.P f.type)).toArray) w := by
      have := Array.toList_mapM (m := Sem) (f := fun f : Field => (do pure (f.offset, ← sizeOf f.type) : Sem (Nat × Nat))) (xs := flds)
      have h9 := hpl flds.toList hall w
      rw [Array.mapM_eq_mapM_toList]
      simp only [Sem.run_map, h9, Result.andThen_ok]
    have hfill : Instr.fill (fun i => ((flds.toList.map fun f => (f.offset, cellsT c.P f.type)).toArray)[i]?) zv.cells ((parts.map fun (i, x) => (i, a.eval x)).toList) = some cells' := by
      rw [← g1]
      congr 1
      funext i
      rw [k3]
      simp only [List.getElem?_toArray, List.getElem?_map, Option.map_map]
      rfl
    simp only [execOp, ho, Instr.build, Sem.run_bind, run_zero h1 h2, Result.andThen_ok, run_und k2]
    rw [hmap]
    simp only [Result.andThen_ok, hfill]
    rfl
  · simp only [VR, VR1]
    exact ⟨cells'.toList, by simp, g2⟩

theorem good_build_arr (h : Rel c σ a w β) {t : TypeId} {parts : Array (Nat × Operand)} {o : Oper} {l e esz n : Nat} {xs ys : List AV} (ho : o.op = .build t parts)
    (ht : tk c.P t = some (.arr l e esz, n)) (hz : zav c.P t = some (.agg xs))
    (hf : fillAV xs (parts.toList.map fun (i, x) => (i, σ.rd x)) (fun i => some (i * esz, esz)) = some ys) (hpos : esz ≠ 0) :
    Good c σ.L β w (.agg ys) σ.L ((execOp a.eval o).run c.P w) := by
  obtain ⟨inf, zv, h1, h2, h3⟩ := zav_sound hz
  obtain ⟨hu, hz⟩ := tk_arr ht
  obtain ⟨rfl, _⟩ := hz hpos
  have hcr := h3 (memOf w.heap σ.L β c.S0)
  simp only [CR] at hcr
  obtain ⟨cells', g1, g2⟩ := fill_sound _ ((parts.map fun (i, x) => (i, a.eval x)).toList) xs ys zv.cells hcr hf (by simp) (parts_rel h parts)
  refine Good.pure h (v := .agg cells') ?_ ?_
  · simp only [execOp, ho, Instr.build, Sem.run_bind, run_zero h1 h2, Result.andThen_ok, run_und hu, run_sizeOf_cells hpos, g1]
    rfl
  · simp only [VR, VR1]
    exact ⟨cells'.toList, by simp, g2⟩

end Go.Proofs.Ytpneikbihcoaaab.Vm

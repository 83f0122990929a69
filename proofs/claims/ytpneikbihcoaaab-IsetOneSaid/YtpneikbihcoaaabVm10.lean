/- What an operation gives is what the machine does: slices made and cut, and what is stored. -/
import Derived.Test.YtpneikbihcoaaabVm9
namespace Go.Proofs.Ytpneikbihcoaaab.Vm
set_option linter.unusedVariables false
set_option linter.unusedSimpArgs false

variable {c : Ctx} {σ : AState} {a : Act} {w : World} {β : List PO}

theorem CRs.replicate {m : Mem} {z : AV} {cs : List Value} (h : CR m z cs) : ∀ n, CRs m (List.replicate n z) (List.replicate n cs).flatten
  | 0 => by simp [CRs]
  | n + 1 => by
    simp only [List.replicate_succ, List.flatten_cons, CRs]
    exact ⟨cs, _, rfl, h, CRs.replicate h n⟩

theorem flatten_replicate_get (cs : List Value) (h : 0 < cs.length) (d : Value) : ∀ (n i : Nat), i < n * cs.length → (List.replicate n cs).flatten[i]? = some (cs.getD (i % cs.length) d)
  | 0, i, hi => by simp at hi
  | n + 1, i, hi => by
    simp only [List.replicate_succ, List.flatten_cons]
    by_cases h1 : i < cs.length
    · rw [List.getElem?_append_left h1, Nat.mod_eq_of_lt h1]
      simp [List.getD, h1]
    · rw [List.getElem?_append_right (by omega), flatten_replicate_get cs h d n (i - cs.length) (by rw [Nat.add_mul] at hi; omega)]
      congr 2
      rw [Nat.mod_eq_sub_mod (a := i) (by omega)]

/-- The cells of a row of zero values, as the machine makes them. -/
theorem zero_cells (zero : Array Value) (n : Nat) (h : 0 < zero.size) : ((Array.range (n * zero.size)).map (fun i => zero[i % zero.size]!)).toList = (List.replicate n zero.toList).flatten := by
  apply List.ext_getElem?
  intro i
  by_cases hi : i < n * zero.size
  · rw [flatten_replicate_get zero.toList (by simpa using h) default n i (by simpa using hi)]
    have hm : i % zero.size < zero.size := Nat.mod_lt _ h
    simp [hi, List.getD, hm]
  · have h2 : (List.replicate n zero.toList).flatten.length = n * zero.size := by simp
    rw [List.getElem?_eq_none (by simp; omega), List.getElem?_eq_none (by rw [h2]; omega)]

theorem all_replicate {n esz : Nat} {z : AV} (h : z.size = esz) : (List.replicate n z).all (·.size == esz) = true := by
  simp [List.all_eq_true]
  right; exact h

theorem fillAV_size {place : Nat → Option (Nat × Nat)} {esz : Nat} : ∀ (parts : List (Nat × AV)) (xs ys : List AV), (∀ i p, place i = some p → p.2 = esz) → xs.all (·.size == esz) = true → fillAV xs parts place = some ys →
    ys.all (·.size == esz) = true ∧ ys.length = xs.length
  | [], xs, ys, _, h, hf => by simp [fillAV] at hf; subst hf; exact ⟨h, rfl⟩
  | (i, y) :: parts, xs, ys, hp, h, hf => by
    simp only [fillAV] at hf
    split at hf
    · rename_i x off sz hxi hpi
      split at hf
      · rename_i hc
        obtain ⟨c1, c2, c3, c4⟩ := hc
        have hsz := hp _ _ hpi
        simp only at hsz
        have := fillAV_size parts (xs.set i y) ys hp (by
          rw [List.all_eq_true] at h ⊢
          intro z hz
          rcases List.mem_or_eq_of_mem_set hz with hz | rfl
          · exact h z hz
          · simp [c3, hsz]) hf
        exact ⟨this.1, by simpa using this.2⟩
      · cases hf
    · cases hf

theorem good_buildSlice (h : Rel c σ a w β) {t : TypeId} {len : Nat} {parts : Array (Nat × Operand)} {o : Oper} {e esz eb n : Nat} {z : AV} {ys : List AV} (ho : o.op = .buildSlice t len parts)
    (ht : tk c.P t = some (.slice e esz eb, n)) (hlen : len * esz ≤ 2 ^ 24) (hpos : 0 < esz) (hz : zav c.P e = some z) (hsz : z.size = esz)
    (hf : fillAV (List.replicate len z) (parts.toList.map fun (i, x) => (i, σ.rd x)) (fun i => some (i * esz, esz)) = some ys) :
    Good c σ.L β w (.own σ.L.length 0 0 len) (σ.L ++ [⟨0, esz, false, false, ys⟩]) ((execOp a.eval o).run c.P w) := by
  obtain ⟨inf, zv, h1, h2, h3⟩ := zav_sound hz
  obtain ⟨hu, rfl, hcell⟩ := tk_slice ht
  have hcell := hcell (by omega)
  have hcr := h3 (memOf w.heap σ.L β c.S0)
  have hzs : zv.cells.size = esz := by rw [← hsz, ← CR.length _ _ hcr]; simp
  have hsize : ∀ w, (sizeOf e).run c.P w = .ok esz w := fun w => by rw [hcell]; exact run_sizeOf_cells (by omega) w
  obtain ⟨cells0, hc0, hc1⟩ : ∃ cells0 : Array Value, cells0 = (Array.range (len * esz)).map (fun i => zv.cells[i % zv.cells.size]!) ∧ cells0.toList = (List.replicate len zv.cells.toList).flatten := by
    refine ⟨_, rfl, ?_⟩
    have := zero_cells zv.cells len (by omega)
    rw [hzs] at this ⊢
    exact this
  obtain ⟨cells', g1, g2⟩ := fill_sound (m := memOf w.heap σ.L β c.S0) _ ((parts.map fun (i, x) => (i, a.eval x)).toList) _ ys cells0 (by rw [hc1]; exact CRs.replicate hcr len) hf (by simp) (parts_rel h parts)
  obtain ⟨s1, s2⟩ := fillAV_size _ _ ys (fun i p hp => by simp at hp; rw [← hp]) (all_replicate hsz) hf
  have hcat : CRcat (memOf w.heap σ.L β c.S0) esz ys cells'.toList := by simpa using CRs.cat [] g2 s1
  obtain ⟨k1, k2, k3⟩ := h.alloc (w' := { w with heap := w.heap.push (.cells cells' e (0, 0)) }) (e := e) hpos hcat (by simp) rfl rfl rfl
  have hlc : len * esz ≤ cells'.toList.length := by
    have := hcat.length
    rw [s2] at this
    simpa using this
  refine ⟨_, .slice (some ⟨w.heap.size, 0, none⟩) len len, _, _, ?_, .inl rfl, k1, k2, k3, VR.mk_own rfl (ownX_new_own _ _ h.heap.len _ _ _ _ _ _ (Nat.le_refl _) hlc)⟩
  have hnot : ¬ len * esz > 2 ^ 24 := by omega
  by_cases h0 : len * esz = 0
  · have hl0 : len = 0 := by
      rcases Nat.mul_eq_zero.1 h0 with h0 | h0 <;> omega
    have he : cells0 = #[] := by rw [hc0, h0]; simp
    rw [he] at g1
    simp only [execOp, ho, Instr.buildSlice, Sem.run_bind, run_und hu, Result.andThen_ok, hsize, hnot, if_false, h0, if_true, Sem.run_pure, Sem.run_ite]
    simp only [show Array.range 0 = #[] from rfl, Array.map_empty, g1, Sem.run_bind, newRow, run_newObj, Result.andThen_ok, Sem.run_pure]
    rw [if_neg (by decide)]
    rfl
  · simp only [execOp, ho, Instr.buildSlice, Sem.run_bind, run_und hu, Result.andThen_ok, hsize, hnot, if_false, h0, Sem.run_pure, Sem.run_ite, run_zero h1 h2]
    rw [← hc0]
    simp only [g1, Sem.run_bind, newRow, run_newObj, Result.andThen_ok, Sem.run_pure]

theorem good_makeSlice (h : Rel c σ a w β) {t : TypeId} {x y : Operand} {o : Oper} {e esz eb n : Nat} {z : AV} {l m : Int} (ho : o.op = .makeSlice t x y)
    (ht : tk c.P t = some (.slice e esz eb, n)) (hx : σ.rd x = .int .i64 l) (hy : σ.rd y = .int .i64 m) (h0 : 0 ≤ l) (hlm : l ≤ m) (hbig : eb * m ≤ 2 ^ 48) (hm : m < 2 ^ 63) (hpos : 0 < esz)
    (hz : zav c.P e = some z) (hsz : z.size = esz) :
    Good c σ.L β w (.own σ.L.length 0 0 l.toNat) (σ.L ++ [⟨0, esz, false, false, List.replicate l.toNat z⟩]) ((execOp a.eval o).run c.P w) := by
  obtain ⟨inf, zv, h1, h2, h3⟩ := zav_sound hz
  obtain ⟨hu, rfl, hcell⟩ := tk_slice ht
  have hcell := hcell (by omega)
  have hxv := (hx ▸ h.rd x : VR _ (.int .i64 l) _).int
  have hyv := (hy ▸ h.rd y : VR _ (.int .i64 m) _).int
  have hcr := h3 (memOf w.heap σ.L β c.S0)
  have hzs : zv.cells.size = esz := by rw [← hsz, ← CR.length _ _ hcr]; simp
  have hsize : ∀ w, (sizeOf e).run c.P w = .ok esz w := fun w => by rw [hcell]; exact run_sizeOf_cells (by omega) w
  have hb : c.P.bytesOf e = inf.bytes := by unfold Program.bytesOf; rw [h1]; rfl
  have hwl : IntKind.i64.wrap l = l := by unfold IntKind.wrap; simp [IntKind.bits, IntKind.signed]; omega
  have hwm : IntKind.i64.wrap m = m := by unfold IntKind.wrap; simp [IntKind.bits, IntKind.signed]; omega
  obtain ⟨M, rfl⟩ := Int.eq_ofNat_of_zero_le (show 0 ≤ m by omega)
  obtain ⟨N, rfl⟩ := Int.eq_ofNat_of_zero_le h0
  obtain ⟨cells0, hc0, hc1⟩ : ∃ cells0 : Array Value, cells0 = (Array.range (M * esz)).map (fun i => zv.cells[i % zv.cells.size]!) ∧ cells0.toList = (List.replicate M zv.cells.toList).flatten := by
    refine ⟨_, rfl, ?_⟩
    have := zero_cells zv.cells M (by omega)
    rw [hzs] at this ⊢
    exact this
  have hcat : CRcat (memOf w.heap σ.L β c.S0) esz (List.replicate N z) cells0.toList := by
    rw [hc1, show M = N + (M - N) from by omega, ← List.replicate_append_replicate, List.flatten_append]
    exact CRs.cat _ (CRs.replicate hcr N) (all_replicate hsz)
  obtain ⟨k1, k2, k3⟩ := h.alloc (w' := { w with heap := w.heap.push (.cells cells0 e (0, 0)) }) (e := e) hpos hcat (by simp) rfl rfl rfl
  have hlc : M * esz ≤ cells0.toList.length := by rw [hc0]; simp
  refine ⟨_, .slice (some ⟨w.heap.size, 0, none⟩) N M, _, _, ?_, .inl rfl, k1, k2, k3, VR.mk_own rfl (ownX_new_own _ _ h.heap.len _ _ _ _ _ _ (by omega) hlc)⟩
  have t1 : (decide ((M : Int) < 0) || decide ((inf.bytes : Int) * (M : Int) > 2 ^ 48)) = false := by
    rw [Bool.or_eq_false_iff]
    exact ⟨by simp, by rw [decide_eq_false_iff_not]; rw [hb] at hbig; omega⟩
  have t2 : ¬ ((N : Int) < 0) := by omega
  have t3 : ¬ ((N : Int) > (M : Int)) := by omega
  by_cases h9 : M * esz = 0
  · have hcell0 : (Array.range (M * esz)).map (fun i => (#[] : Array Value)[i % (#[] : Array Value).size]!) = cells0 := by
      rw [hc0, h9]; simp [show Array.range 0 = #[] from rfl]
    rw [h9] at hcell0
    simp only [execOp, ho, Instr.makeSlice, Sem.run_bind, run_und hu, Result.andThen_ok, hxv, hyv, asInt, asIntOf_int, Sem.run_pure, run_typeInfo w h1, hwl, hwm, t1, t2, t3, decide_false, Bool.false_or, Bool.or_false, Bool.false_eq_true, if_false,
      Int.toNat_natCast, run_askRoom, hsize, h9, if_true, hcell0, newRow, run_newObj, Sem.run_ite]
  · have hcell0 : (Array.range (M * esz)).map (fun i => zv.cells[i % zv.cells.size]!) = cells0 := hc0.symm
    simp only [execOp, ho, Instr.makeSlice, Sem.run_bind, run_und hu, Result.andThen_ok, hxv, hyv, asInt, asIntOf_int, Sem.run_pure, run_typeInfo w h1, hwl, hwm, t1, t2, t3, decide_false, Bool.false_or, Bool.or_false, Bool.false_eq_true, if_false,
      Int.toNat_natCast, run_askRoom, hsize, h9, run_zero h1 h2, hcell0, newRow, run_newObj, Sem.run_ite]

theorem bound_sound {P : Program} {w : World} {y : Nat} {code : BoundsCode} {x : AV} {v : Value} {m : Mem} {d r : Nat} (hv : VR m x v) (h : boundAV (some x) d y = some r) :
    (Instr.sliceBound v y code).run P w = .ok r w ∧ r ≤ y := by
  cases x <;> simp only [boundAV] at h <;> try (cases h; done)
  rename_i k n
  split at h
  · rename_i hc
    simp only [Option.some.injEq] at h
    subst h
    have := hv.int
    subst this
    refine ⟨?_, by omega⟩
    simp [Instr.sliceBound, asIntOf_int, hc]
  · cases h

theorem bounds_sound (h : Rel c σ a w β) (isSlice : Bool) {lo hi : Option Operand} {len cap l r : Nat} (hlc : len ≤ cap) (hh : boundAV (hi.map σ.rd) len len = some r) (hl : boundAV (lo.map σ.rd) 0 r = some l) :
    (Instr.sliceBounds isSlice len cap (lo.map a.eval) (hi.map a.eval) none).run c.P w = .ok (l, r, cap) w ∧ l ≤ r ∧ r ≤ len := by
  have h1 : ∃ r', r' = r ∧ ((match (hi.map a.eval : Option Value) with
      | some v => Instr.sliceBound v cap (if isSlice then .sliceAcap else .sliceAlen)
      | none => pure len : Sem Nat).run c.P w = .ok r' w) ∧ r ≤ len := by
    cases hi with
    | none =>
      simp only [Option.map_none, boundAV, Option.some.injEq] at hh
      subst hh
      exact ⟨len, rfl, rfl, Nat.le_refl _⟩
    | some x =>
      simp only [Option.map_some] at hh ⊢
      have h2 := bound_sound (P := c.P) (w := w) (code := if isSlice then .sliceAcap else .sliceAlen) (h.rd x) hh
      refine ⟨r, rfl, ?_, h2.2⟩
      have h3 : boundAV (some (σ.rd x)) len cap = some r := by
        revert hh
        cases σ.rd x <;> simp only [boundAV] <;> try exact id
        intro hh
        split at hh
        · rename_i k n hc
          rw [if_pos ⟨hc.1, by omega⟩]
          exact hh
        · cases hh
      exact (bound_sound (P := c.P) (w := w) (h.rd x) h3).1
  obtain ⟨r', rfl, h2, h3⟩ := h1
  have h4 : (match (lo.map a.eval : Option Value) with
      | some v => Instr.sliceBound v r' .sliceB
      | none => pure 0 : Sem Nat).run c.P w = .ok l w ∧ l ≤ r' := by
    cases lo with
    | none =>
      simp only [Option.map_none, boundAV, Option.some.injEq] at hl
      subst hl
      exact ⟨rfl, Nat.zero_le _⟩
    | some x =>
      simp only [Option.map_some] at hl ⊢
      exact bound_sound (h.rd x) hl
  refine ⟨?_, h4.2, h3⟩
  unfold Instr.sliceBounds
  cases hi with
  | none =>
    simp only [Option.map_none] at h2 ⊢
    simp only [Sem.run_bind, Sem.run_pure, Result.andThen_ok] at h2 ⊢
    obtain ⟨h2, _⟩ := Result.ok.inj h2
    subst h2
    cases lo with
    | none =>
      simp only [Option.map_none, Sem.run_pure] at h4
      obtain ⟨e1, _⟩ := Result.ok.inj h4.1
      subst e1
      simp only [Option.map_none, Sem.run_bind, Sem.run_pure, Result.andThen_ok]
    | some x =>
      simp only [Option.map_some] at h4
      simp only [Option.map_some, Option.isSome_none, Bool.false_eq_true, if_false, Sem.run_bind, h4.1, Result.andThen_ok, Sem.run_pure]
  | some y =>
    simp only [Option.map_some] at h2 ⊢
    simp only [Sem.run_bind, Sem.run_pure, Result.andThen_ok, h2]
    cases lo with
    | none =>
      simp only [Option.map_none, Sem.run_pure] at h4
      obtain ⟨e1, _⟩ := Result.ok.inj h4.1
      subst e1
      simp only [Option.map_none, Sem.run_bind, Sem.run_pure, Result.andThen_ok]
    | some x =>
      simp only [Option.map_some] at h4
      simp only [Option.map_some, Option.isSome_none, Bool.false_eq_true, if_false, Sem.run_bind, h4.1, Result.andThen_ok, Sem.run_pure]

theorem good_slice_str (h : Rel c σ a w β) {t : TypeId} {x : Operand} {lo hi : Option Operand} {o : Oper} {n l r : Nat} {s : ByteArray} (ho : o.op = .slice t x lo hi none)
    (ht : tk c.P t = some (.str, n)) (hx : σ.rd x = .str s) (hh : boundAV (hi.map σ.rd) s.size s.size = some r) (hl : boundAV (lo.map σ.rd) 0 r = some l) :
    Good c σ.L β w (.str (s.extract l r)) σ.L ((execOp a.eval o).run c.P w) := by
  have hv := (hx ▸ h.rd x : VR _ (.str s) _).str
  have hu := tk_str ht
  obtain ⟨g1, _, _⟩ := bounds_sound h false (Nat.le_refl _) hh hl
  refine Good.pure h (v := .string (s.extract l r)) ?_ (VR.mk_str _ _)
  simp [execOp, ho, Instr.sliceAt, run_und hu, Instr.slice, hv, g1]

theorem good_slice_slice (h : Rel c σ a w β) {t : TypeId} {x : Operand} {lo hi : Option Operand} {o : Oper} {e esz eb n l r : Nat} {xs : List AV} (ho : o.op = .slice t x lo hi none)
    (ht : tk c.P t = some (.slice e esz eb, n)) (hx : σ.rd x = .slice xs) (hh : boundAV (hi.map σ.rd) xs.length xs.length = some r) (hl : boundAV (lo.map σ.rd) 0 r = some l)
    (hall : xs.all (·.size == esz) = true) (hpos : 0 < esz) :
    Good c σ.L β w (.slice ((xs.take r).drop l)) σ.L ((execOp a.eval o).run c.P w) := by
  obtain ⟨hu, rfl, hcell⟩ := tk_slice ht
  have hcell := hcell (by omega)
  obtain ⟨ad?, cap, g1, g2, g3⟩ := (hx ▸ h.rd x : VR _ (.slice xs) _).slice
  obtain ⟨b1, b2, b3⟩ := bounds_sound h true g2 hh hl
  have hlen : ((xs.take r).drop l).length = r - l := by simp; omega
  have hsize : ∀ w, (sizeOf e).run c.P w = .ok esz w := fun w => by rw [hcell]; exact run_sizeOf_cells (by omega) w
  refine Good.pure h (v := .slice (if cap = l then ad? else ad?.map (·.add (l * esz))) (r - l) (cap - l)) ?_ ?_
  · simp [execOp, ho, Instr.sliceAt, run_und hu, Instr.slice, g1, b1, hsize]
  · simp only [VR, VR1, CR, hlen]
    refine ⟨_, _, rfl, by omega, ?_⟩
    by_cases he : r = l
    · left
      subst he
      exact List.eq_nil_of_length_eq_zero (by omega)
    · right
      rcases g3 with rfl | ⟨ad, sz, rfl, e1, e2, e3⟩
      · simp at b3; omega
      · have hsz : sz = esz := by
          cases xs with
          | nil => simp at b3; omega
          | cons x xs =>
            obtain ⟨cs, q1, q2, _⟩ := CRrow_iff.1 e3 0 x rfl
            rw [← q2, CR.length _ _ q1]
            simp only [List.all_cons, Bool.and_eq_true, beq_iff_eq] at hall
            exact hall.1
        subst hsz
        refine ⟨⟨ad.block, ad.off + l * sz, none⟩, sz, ?_, rfl, e2, ?_⟩
        · rw [if_neg (by omega)]
          simp [Addr.add_spot e1]
        · rw [List.drop_take]
          exact e3.take l (r - l)

theorem good_slice_own (h : Rel c σ a w β) {t : TypeId} {x : Operand} {lo hi : Option Operand} {o : Oper} {e esz eb n l r : Nat} {oo ver off len : Nat} {obj : AObj} (ho : o.op = .slice t x lo hi none)
    (ht : tk c.P t = some (.slice e esz eb, n)) (hx : σ.rd x = .own oo ver off len) (hL : σ.L[oo]? = some obj) (hver : obj.ver = ver) (hnil : obj.nil = false) (hesz : obj.esz = esz)
    (hh : boundAV (hi.map σ.rd) len len = some r) (hl : boundAV (lo.map σ.rd) 0 r = some l) :
    Good c σ.L β w (.own oo ver (off + l) (r - l)) σ.L ((execOp a.eval o).run c.P w) := by
  obtain ⟨hu, rfl, hcell⟩ := tk_slice ht
  obtain ⟨po, ad, cap, g1, g2, g3, g4, g5, g6, g7⟩ := h.own hx hL hver hnil
  have hpos := h.heap.esz oo obj po hL g1 hnil
  have hcell := hcell (by omega)
  obtain ⟨b1, b2, b3⟩ := bounds_sound h true g5 hh hl
  have hsize : ∀ w, (sizeOf e).run c.P w = .ok esz w := fun w => by rw [hcell]; exact run_sizeOf_cells (by omega) w
  refine Good.pure h (v := .slice (if cap = l then some ad else (some ad).map (·.add (l * esz))) (r - l) (cap - l)) ?_ (VR.mk_own rfl ?_)
  · simp [execOp, ho, Instr.sliceAt, run_und hu, Instr.slice, g2, b1, hsize]
  · simp only [memOf, ownX]
    refine ⟨obj, po, hL, g1, by omega, fun _ => ?_⟩
    rw [if_neg (by simp [hnil])]
    by_cases he : cap = l
    · refine ⟨ad, cap - l, by rw [if_pos he], g3, g4, by omega, fun hne => by omega, ?_⟩
      have : off + l + (cap - l) = off + cap := by omega
      rw [this]; exact g7
    · refine ⟨ad.add (l * esz), cap - l, by rw [if_neg he]; rfl, ?_, ?_, by omega, fun _ => ?_, ?_⟩
      · rw [Addr.add_spot g4]; exact g3
      · rw [Addr.add_spot g4]
      · rw [Addr.add_spot g4]
        simp only
        rw [g6 (by omega), hesz, Nat.add_mul]
      · have : off + l + (cap - l) = off + cap := by omega
        rw [this]; exact g7

/-- A part of an element is stored. -/
theorem good_store (h : Rel c σ a w β) {t : TypeId} {x v : Operand} {o : Oper} {k : TK} {n : Nat} {oo ver i : Nat} {path : List Nat} {off : Nat} {obj : AObj} {e y e' : AV} (ho : o.op = .store t x v)
    (ht : tk c.P t = some (k, n)) (hx : σ.rd x = .addr oo ver i path off) (hL : σ.L[oo]? = some obj) (hver : obj.ver = ver) (hfz : obj.fz = false) (hm : (σ.rd v).memo = true) (hvn : (σ.rd v).size = n)
    (he : obj.elems[i]? = some e) (hy : e.getP path = some y) (hoff : e.offP path = some off) (hyn : y.size = n) (hset : e.setP path (σ.rd v) = some e') :
    Good c σ.L β w (.tup []) (σ.L.set oo { obj with elems := obj.elems.set i e' }) ((execOp a.eval o).run c.P w) := by
  obtain ⟨po, k1, k2, k3⟩ := h.addr hx hL hver
  obtain ⟨inf, d, i1, i2, rfl, rfl⟩ := tk_info ht
  have hcr := ((h.rd v).memo hm).1
  have hvsz : (a.eval v).cells.size = inf.size := by rw [(h.rd v).size hm, hvn]
  obtain ⟨cs, r1, r2, r3⟩ := CRrow_iff.1 (h.heap.row oo obj po hL k1 k2) i e he
  obtain ⟨c0, c1, c2, rfl, f1, f2, f3⟩ := CR.focus path e y cs r1 hy
  rw [hoff] at f1
  simp only [Option.some.injEq] at f1
  have hc1 : c1.length = inf.size := by rw [CR.length _ _ f2, hyn]
  have hroom := h.heap.room oo obj po hL k1 k2
  have hesz := h.heap.esz oo obj po hL k1 k2
  have hi := (List.getElem?_eq_some_iff.1 he).1
  have hiz : (i + 1) * obj.esz ≤ po.n := Nat.le_trans (Nat.mul_le_mul_right _ hi) hroom
  rw [Nat.add_mul, Nat.one_mul] at hiz
  simp only [List.length_append] at r2
  obtain ⟨blk, te, fr, hb, hbn, hbf⟩ := h.heap.free oo obj po hL k1 k2
  obtain ⟨blk', s1, s2, s3, s4⟩ := run_storeCells_free c.P po.b (i * obj.esz + off) te fr (a.eval v).cells.toList 0 blk w hb
    (by simp only [Array.length_toList]; omega) (fun j hj => hbf j (by omega)) (CR.cells _ _ hcr)
  have hlt : po.b < w.heap.size := h.heap.lt hL k1 k2
  have hfree' : Free (w.heap.setIfInBounds po.b (.cells blk' te fr)) po.b po.n := ⟨blk', te, fr, by simp [hlt], by omega, hbf⟩
  obtain ⟨u1, u2⟩ := h.heap.upd (h' := w.heap.setIfInBounds po.b (.cells blk' te fr)) (obj' := { obj with elems := obj.elems.set i e' }) (po' := po) hL k1 (by simp)
    (.inl ⟨rfl, k2, fun _ => hfz⟩) (fun b hb2 hne => by
      rw [Array.getElem?_setIfInBounds_ne]
      rcases hne with hne | hne | hne
      · rw [k2] at hne; cases hne
      · rw [hfz] at hne; cases hne
      · exact fun e => hne e.symm)
    (.inl ⟨rfl, rfl, rfl, rfl⟩) k2 hesz (h.heap.S oo obj po hL k1 k2) (fun _ => h.heap.W oo obj po hL k1 k2 hfz) (by simpa using hroom) hfree'
  have hβ : β.set oo po = β := by
    apply List.ext_getElem?
    intro j
    rw [List.getElem?_set]
    split
    · rename_i hj
      subst hj
      have hlt2 := (List.getElem?_eq_some_iff.1 k1).1
      simp [hlt2, k1]
      have := (List.getElem?_eq_some_iff.1 k1).2
      rw [this]
    · rfl
  rw [hβ] at u1 u2
  have u3 := u2 fun hle => by
    obtain ⟨e2, z1, z2⟩ := f3 _ hle (σ.rd v) _ (CR.mono hle _ _ hcr)
    rw [hset] at z1
    obtain rfl := Option.some.inj z1
    rw [CRrow_iff]
    intro j q hq
    by_cases hj : i = j
    · subst hj
      rw [List.getElem?_set_self hi] at hq
      obtain rfl := Option.some.inj hq
      refine ⟨_, z2, by simp only [List.length_append, Array.length_toList]; omega, blk', te, fr, by simp [memOf, hlt], fun p u hp => ?_⟩
      obtain ⟨blk2, te2, fr2, hb2, hc2⟩ := r3
      simp only [memOf] at hb2
      rw [hb] at hb2
      simp only [Option.some.injEq, Obj.cells.injEq] at hb2
      obtain ⟨rfl, rfl, rfl⟩ := hb2
      simp only [Nat.zero_add] at hc2 ⊢
      by_cases p1 : p < c0.length
      · rw [s4 _ (by left; omega)]
        refine hc2 p u ?_
        rw [List.append_assoc, List.getElem?_append_left p1] at hp ⊢
        exact hp
      · by_cases p2 : p < c0.length + inf.size
        · rw [List.append_assoc, List.getElem?_append_right (by omega), List.getElem?_append_left (by simp only [Array.length_toList]; omega)] at hp
          have := s3 (p - c0.length) u hp
          rwa [show i * obj.esz + off + 0 + (p - c0.length) = i * obj.esz + p from by omega] at this
        · rw [s4 _ (by right; simp only [Array.length_toList]; omega)]
          refine hc2 p u ?_
          rw [List.getElem?_append_right (by simp only [List.length_append, Array.length_toList]; omega)] at hp
          rw [List.getElem?_append_right (by simp only [List.length_append]; omega)]
          simp only [List.length_append, Array.length_toList] at hp ⊢
          rwa [show p - (c0.length + c1.length) = p - (c0.length + (a.eval v).cells.size) from by omega]
    · rw [List.getElem?_set_ne hj] at hq
      obtain ⟨cs2, y1, y2, y3⟩ := CRrow_iff.1 (h.heap.row oo obj po hL k1 k2) j q hq
      refine ⟨cs2, CR.mono hle _ _ y1, y2, blk', te, fr, by simp [memOf, hlt], fun p u hp => ?_⟩
      obtain ⟨blk2, te2, fr2, hb2, hc2⟩ := y3
      simp only [memOf] at hb2
      rw [hb] at hb2
      simp only [Option.some.injEq, Obj.cells.injEq] at hb2
      obtain ⟨rfl, rfl, rfl⟩ := hb2
      have hp2 := (List.getElem?_eq_some_iff.1 hp).1
      simp only [Nat.zero_add] at hc2 ⊢
      rw [s4 _ ?_]
      · exact hc2 p u hp
      · rcases Nat.lt_or_gt_of_ne hj with hj | hj
        · right
          have : (i + 1) * obj.esz ≤ j * obj.esz := Nat.mul_le_mul_right _ hj
          rw [Nat.add_mul, Nat.one_mul] at this
          simp only [Array.length_toList]
          omega
        · left
          have : (j + 1) * obj.esz ≤ i * obj.esz := Nat.mul_le_mul_right _ hj
          rw [Nat.add_mul, Nat.one_mul] at this
          omega
  refine ⟨.skip, undef, { w with heap := w.heap.setIfInBounds po.b (.cells blk' te fr) }, β, ?_, .inr ⟨rfl, rfl⟩, u1, u3, ?_, ?_⟩
  · have hne : ¬ (a.eval v).cells.size ≠ inf.size := by simp [hvsz]
    simp only [execOp, ho, Instr.storeAt, k3, Instr.sureAddr, Sem.run_bind, Sem.run_pure, Result.andThen_ok, storeVar, run_size i1, hne, if_false, s1, Sem.run_ite]
  · refine ⟨h.ext.os, h.ext.tape, h.ext.output, by simp; exact h.ext.size, fun q hq hn => ?_⟩
    rw [Array.getElem?_setIfInBounds_ne]
    · exact h.ext.block q hq hn
    · rintro rfl
      rcases h.heap.W oo obj po hL k1 k2 hfz with hw | hw
      · omega
      · exact hn hw
  · simp only [VR]
    exact ⟨[], rfl, by simp [VRs]⟩

end Go.Proofs.Ytpneikbihcoaaab.Vm

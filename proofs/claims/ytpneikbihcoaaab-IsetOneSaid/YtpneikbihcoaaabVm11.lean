/- What an operation gives is what the machine does: what is appended, and texts turned into bytes and back. -/
import Derived.Test.YtpneikbihcoaaabVm10
namespace Go.Proofs.Ytpneikbihcoaaab.Vm
set_option linter.unusedVariables false
set_option linter.unusedSimpArgs false

variable {c : Ctx} {σ : AState} {a : Act} {w : World} {β : List PO}

/-- The cells of a row, in one list. -/
theorem CRrow.cells {m : Mem} {b sz : Nat} : ∀ {xs : List AV} {off : Nat}, CRrow m b sz xs off → ∃ cs, CRs m xs cs ∧ cs.length = xs.length * sz ∧ (xs ≠ [] → Stand m.h b off cs)
  | [], off, _ => ⟨[], by simp [CRs], by simp, fun h => absurd rfl h⟩
  | x :: xs, off, h => by
    simp only [CRrow] at h
    obtain ⟨⟨c1, h1, h2, c, e, fr, h3, h4⟩, h5⟩ := h
    obtain ⟨c2, g1, g2, g3⟩ := CRrow.cells h5
    refine ⟨c1 ++ c2, by simp only [CRs]; exact ⟨c1, c2, rfl, h1, g1⟩, by simp [h2, g2, Nat.add_mul]; omega, fun _ => ⟨c, e, fr, h3, fun j v hj => ?_⟩⟩
    by_cases hlt : j < c1.length
    · rw [List.getElem?_append_left hlt] at hj
      exact h4 j v hj
    · rw [List.getElem?_append_right (by omega)] at hj
      have hne : xs ≠ [] := by
        rintro rfl
        simp at g2
        subst g2
        simp at hj
      obtain ⟨c', e', fr', k3, k4⟩ := g3 hne
      rw [h3] at k3
      simp only [Option.some.injEq, Obj.cells.injEq] at k3
      obtain ⟨rfl, rfl, rfl⟩ := k3
      have := k4 _ v hj
      rwa [show off + sz + (j - c1.length) = off + j from by omega] at this

theorem strBytes_cells (m : Mem) (s : ByteArray) : CRs m (strBytes s) (s.data.toList.map fun b => Value.int .u8 b.toNat) := by
  unfold strBytes
  induction s.data.toList with
  | nil => simp [CRs]
  | cons b l ih =>
    simp only [List.map_cons, CRs]
    exact ⟨[_], _, rfl, by simp [CR], ih⟩

/-- What is appended: how long it is, and its cells. -/
theorem more_sound (h : Rel c σ a w β) {y : AV} {v : Value} {ys : List AV} {esz : Nat} (hv : VR (memOf w.heap σ.L β c.S0) y v) (hy : σ.more y = some ys) (hall : ys.all (fun y => y.size == esz && y.memo) = true)
    (hstr : (∃ s, v = .string s) → esz = 1) :
    (Builtin.lenOf v).run c.P w = .ok ys.length w ∧ ∃ cs : List Value, (∀ w', w'.heap = w.heap → (Builtin.firstCells esz ys.length v).run c.P w' = .ok cs.toArray w') ∧ CRs (memOf w.heap σ.L β c.S0) ys cs ∧ cs.length = ys.length * esz := by
  have row : ∀ xs, σ.elems y = some xs → xs = ys → (Builtin.lenOf v).run c.P w = .ok ys.length w ∧ ∃ cs : List Value, (∀ w', w'.heap = w.heap → (Builtin.firstCells esz ys.length v).run c.P w' = .ok cs.toArray w') ∧ CRs (memOf w.heap σ.L β c.S0) ys cs ∧ cs.length = ys.length * esz := by
    rintro xs hx rfl
    obtain ⟨ad, cap, rfl, hr⟩ := h.row hv hx
    refine ⟨rfl, ?_⟩
    rcases hr with rfl | ⟨d, sz, rfl, h1, h2⟩
    · refine ⟨[], fun w' _ => ?_, by simp [CRs], by simp⟩
      cases ad with
      | none => rfl
      | some d => simp [Builtin.firstCells, loadCells, loadCellsFrom]
    · by_cases hne : xs = []
      · subst hne
        exact ⟨[], fun w' _ => by simp [Builtin.firstCells, loadCells, loadCellsFrom], by simp [CRs], by simp⟩
      · obtain ⟨cs, g1, g2, g3⟩ := h2.cells
        have hsz : sz = esz := by
          cases xs with
          | nil => exact absurd rfl hne
          | cons x xs =>
            simp only [CRrow] at h2
            obtain ⟨⟨c1, e1, e2, _⟩, _⟩ := h2
            rw [← e2, CR.length _ _ e1]
            simp only [List.all_cons, Bool.and_eq_true, beq_iff_eq] at hall
            exact hall.1.1
        subst hsz
        refine ⟨cs, fun w' hw' => ?_, g1, g2⟩
        simp only [Builtin.firstCells]
        rw [← g2]
        exact run_load_stand h1 (by rw [hw']; exact g3 hne)
  cases y <;> simp only [AState.more] at hy <;> try exact row _ hy rfl
  rename_i s
  obtain rfl := Option.some.inj hy
  obtain rfl := hv.str
  have he := hstr ⟨s, rfl⟩
  subst he
  have hlen : (strBytes s).length = s.size := by simp [strBytes]
  refine ⟨by rw [hlen]; rfl, _, fun w' _ => ?_, strBytes_cells _ s, by simp [strBytes]⟩
  have hex : s.extract 0 s.size = s := by
    apply ByteArray.ext
    simp [ByteArray.data_extract]
  simp only [Builtin.firstCells, hlen, hex, Sem.run_pure]
  congr 1
  rw [← Array.toList_map]

theorem CRrow.append {m : Mem} {b sz : Nat} : ∀ {xs ys : List AV} {off : Nat}, CRrow m b sz xs off → CRrow m b sz ys (off + xs.length * sz) → CRrow m b sz (xs ++ ys) off
  | [], ys, off, _, h => by simpa using h
  | x :: xs, ys, off, h1, h2 => by
    simp only [CRrow, List.cons_append] at h1 ⊢
    refine ⟨h1.1, CRrow.append h1.2 ?_⟩
    simp only [List.length_cons] at h2
    rwa [show off + sz + xs.length * sz = off + (xs.length + 1) * sz from by rw [Nat.add_mul]; omega]

theorem CRs.append {m : Mem} : ∀ {xs ys : List AV} {c1 c2 : List Value}, CRs m xs c1 → CRs m ys c2 → CRs m (xs ++ ys) (c1 ++ c2)
  | [], ys, c1, c2, h1, h2 => by simp only [CRs] at h1; subst h1; simpa using h2
  | x :: xs, ys, c1, c2, h1, h2 => by
    simp only [CRs, List.cons_append] at h1 ⊢
    obtain ⟨d1, d2, rfl, e1, e2⟩ := h1
    exact ⟨d1, d2 ++ c2, by simp, e1, CRs.append e2 h2⟩

/-- A row whose own cells stay. -/
theorem CRrow.stable {m m' : Mem} (hl : m.Le m') {b sz : Nat} {c c' : Array Value} {e e' : TypeId} {fr fr' : Nat × Nat} (hb : m.h[b]? = some (.cells c e fr)) (hb' : m'.h[b]? = some (.cells c' e' fr')) {xs : List AV} {off : Nat}
    (hk : ∀ k, off ≤ k → k < off + xs.length * sz → c'[k]? = c[k]?) (h : CRrow m b sz xs off) : CRrow m' b sz xs off := by
  rw [CRrow_iff] at *
  intro i x hi
  obtain ⟨cs, h1, h2, c2, e2, fr2, h3, h4⟩ := h i x hi
  rw [hb] at h3
  simp only [Option.some.injEq, Obj.cells.injEq] at h3
  obtain ⟨rfl, rfl, rfl⟩ := h3
  have hlt := (List.getElem?_eq_some_iff.1 hi).1
  refine ⟨cs, CR.mono hl _ _ h1, h2, c', e', fr', hb', fun j v hj => ?_⟩
  have hj2 := (List.getElem?_eq_some_iff.1 hj).1
  have : (i + 1) * sz ≤ xs.length * sz := Nat.mul_le_mul_right _ hlt
  rw [Nat.add_mul, Nat.one_mul] at this
  rw [hk _ (by omega) (by omega)]
  exact h4 j v hj

theorem growBy_le (newLen : Nat) : ∀ (r c : Nat), 256 ≤ c → c < newLen → Builtin.growBy newLen r c ≤ 2 * newLen
  | 0, c, h1, h2 => by simp [Builtin.growBy]; omega
  | r + 1, c, h1, h2 => by
    simp only [Builtin.growBy]
    rw [if_neg (by omega)]
    by_cases h3 : c + (c + 768) / 4 < newLen
    · exact growBy_le newLen r _ (by omega) h3
    · cases r with
      | zero => simp only [Builtin.growBy]; omega
      | succ r => simp only [Builtin.growBy]; rw [if_pos (by omega)]; omega

theorem nextslicecap_le {need cap : Nat} (h : cap < need) : Builtin.nextslicecap need cap ≤ 2 * need := by
  unfold Builtin.nextslicecap
  split
  · omega
  · split
    · omega
    · exact growBy_le need 4 cap (by omega) h

/-- What is appended makes the row longer, in place or in a new block. -/
theorem good_append (h : Rel c σ a w β) {cl : Call} {o : Oper} {t u : TypeId} {x y : Operand} {e esz eb n nu : Nat} {ku : TK} {oo ver len : Nat} {obj : AObj} {ys : List AV}
    (ho : o.op = .call cl) (hcal : cl.callee = .builtin .append) (hargs : cl.args.toList = [x, y]) (hat : cl.argTypes.toList = [t, u])
    (ht : tk c.P t = some (.slice e esz eb, n)) (hu : tk c.P u = some (ku, nu)) (hfit : ku.fits esz = true) (hsf : (σ.rd y).strFit esz = true) (hzav : zOk c.P e esz = true)
    (hx : σ.rd x = .own oo ver 0 len) (hy : σ.more (σ.rd y) = some ys) (hL : σ.L[oo]? = some obj) (hver : obj.ver = ver) (hfz : obj.fz = false) (hlen : len ≤ obj.elems.length) (hpos : 0 < esz)
    (hesz : obj.nil = true ∨ obj.esz = esz) (hall : ys.all (fun y => y.size == esz && y.memo) = true) (hb1 : (len + ys.length) * eb ≤ 2 ^ 45) (hb2 : len + ys.length < 2 ^ 45) :
    (ys = [] → Good c σ.L β w (.own oo ver 0 len) σ.L ((execOp a.eval o).run c.P w)) ∧
    (ys ≠ [] → Good c σ.L β w (.own oo (ver + 1) 0 (len + ys.length)) (σ.L.set oo ⟨ver + 1, esz, false, false, obj.elems.take len ++ ys⟩) ((execOp a.eval o).run c.P w)) := by
  obtain ⟨hut, rfl, hcell⟩ := tk_slice ht
  have hcell := hcell (by omega)
  have hsize : ∀ w, (sizeOf e).run c.P w = .ok esz w := fun w => by rw [hcell]; exact run_sizeOf_cells (by omega) w
  obtain ⟨z, hz, hzsz⟩ : ∃ z, zav c.P e = some z ∧ z.size = esz := by
    unfold zOk at hzav
    split at hzav
    · rename_i z hz
      exact ⟨z, hz, by simpa using hzav⟩
    · cases hzav
  obtain ⟨inf, zv, i1, i2, i3⟩ := zav_sound hz
  have hbytes : c.P.bytesOf e = inf.bytes := by unfold Program.bytesOf; rw [i1]; rfl
  obtain ⟨iu, du, u1, u2, rfl, _⟩ := tk_info hu
  have hzeros : ∀ w, ((match (some u : Option TypeId) with
      | some xType => do pure ((← underlying xType) matches .int _)
      | none => pure false : Sem Bool)).run c.P w = .ok false w := fun w => by
    simp only [Sem.run_bind, run_und u2, Result.andThen_ok, Sem.run_pure]
    cases du <;> first | rfl | (simp [tkOf, TK.fits] at hfit; done)
  have hstr : (∃ s, a.eval y = .string s) → esz = 1 := by
    rintro ⟨s, hs⟩
    have hyv := h.rd y
    have row : ∀ z, σ.rd y = z → σ.elems z = some ys → esz = 1 := fun z hz he => by
      obtain ⟨ad, cap, e1, _⟩ := h.row (hz ▸ hyv : VR _ z _) he
      rw [hs] at e1; cases e1
    cases hr : σ.rd y <;> rw [hr] at hy hsf <;> simp only [AState.more] at hy <;> first
      | (simpa [AV.strFit] using hsf; done)
      | exact row _ hr hy
  obtain ⟨m1, cs, m2', m3, m4⟩ := more_sound h (h.rd y) hy hall hstr
  have m2 := m2' w rfl
  have hsz : ys.all (·.size == esz) = true := by
    rw [List.all_eq_true] at hall ⊢
    intro q hq
    have := hall q hq
    simp only [Bool.and_eq_true] at this
    exact this.1
  have hxv := (hx ▸ h.rd x : VR _ (.own oo ver 0 len) _).own
  obtain ⟨po, k1⟩ := h.heap.po hL
  have hoLt := (List.getElem?_eq_some_iff.1 hL).1
  have hoLt' := (List.getElem?_eq_some_iff.1 k1).1

  have harg0 : cl.argTypes[0]? = some t := by rw [← Array.getElem?_toList, hat]; rfl
  have harg1 : cl.argTypes[1]? = some u := by rw [← Array.getElem?_toList, hat]; rfl
  have hmap : cl.args.map a.eval = #[a.eval x, a.eval y] := by
    apply Array.ext'
    simp [hargs]
  have hx0 : ∃ base cap, a.eval x = .slice base len cap ∧ (obj.nil = true → base = none ∧ len = 0 ∧ cap = 0) ∧ (obj.nil = false → ∃ ad, base = some ad ∧ ad.block = po.b ∧ ad.spot = none ∧ len ≤ cap ∧
      (cap ≠ 0 → ad.off = 0) ∧ cap * esz ≤ po.n) := by
    simp only [memOf, ownX] at hxv
    obtain ⟨ob, p, q1, q2, q3, q4⟩ := hxv
    rw [hL] at q1; rw [k1] at q2
    obtain rfl := Option.some.inj q1
    obtain rfl := Option.some.inj q2
    have q5 := q4 hver
    by_cases hn : obj.nil = true
    · rw [if_pos hn] at q5
      obtain ⟨q6, rfl, _⟩ := q5
      exact ⟨none, 0, q6, fun _ => ⟨rfl, rfl, rfl⟩, fun h => by rw [hn] at h; cases h⟩
    · rw [if_neg hn] at q5
      obtain ⟨ad, cap, r1, r2, r3, r4, r5, r6⟩ := q5
      have he : obj.esz = esz := hesz.resolve_left hn
      refine ⟨some ad, cap, r1, fun h => absurd h hn, fun _ => ⟨ad, rfl, r2, r3, r4, fun h => by simpa using r5 h, ?_⟩⟩
      rw [he] at r6
      simpa using r6
  obtain ⟨base, cap, hxe, hnilc, hownc⟩ := hx0
  have hdu : du = .string ∨ ∃ e2, du = .slice e2 := by
    cases du <;> first | (simp [tkOf, TK.fits] at hfit; done) | exact .inl rfl | exact .inr ⟨_, rfl⟩
  have hgrow : ¬ len + ys.length ≤ cap → ¬ (Builtin.nextslicecap (len + ys.length) cap * inf.bytes > 2 ^ 48) := fun hc => by
    have h1 := nextslicecap_le (need := len + ys.length) (cap := cap) (by omega)
    have h2 := Nat.mul_le_mul_right inf.bytes h1
    rw [hbytes] at hb1
    have h3 : 2 * (len + ys.length) * inf.bytes = 2 * ((len + ys.length) * inf.bytes) := by rw [Nat.mul_assoc]
    omega
  have hmax : ¬ (((len + ys.length : Nat) : Int) > IntKind.i64.max ∧ (False ∨ inf.bytes = 0)) := by
    intro hh
    have h1 := hh.1
    have : IntKind.i64.max = 2 ^ 63 - 1 := rfl
    omega
  -- in place
  have hin : ∀ w', len + ys.length ≤ cap → (∀ ad, base = some ad → (storeCells (ad.add (len * esz)) cs).run c.P w = .ok () w') → (base = none → w' = w) →
      (execOp a.eval o).run c.P w = .ok (.value (.slice base (len + ys.length) cap)) w' := fun w' hc hst hnb => by
    simp only [execOp, ho, resolve, hcal, Sem.run_bind, Sem.run_pure, Result.andThen_ok, invoke, Go.builtin, Builtin.append_, harg0, harg1, hmap]
    rcases hdu with rfl | ⟨e2, rfl⟩
    all_goals
      simp only [List.getElem?_toArray, List.getElem?_cons_zero, List.getElem?_cons_succ, Sem.run_bind, run_und hut, Result.andThen_ok, hxe, hsize, run_und u2, Sem.run_pure,
        Bool.false_eq_true, if_false, m1, hc, if_true, Bool.not_false, m2, Sem.run_ite]
      cases base with
      | none => rw [hnb rfl]; rfl
      | some ad =>
        have := hst ad rfl
        simp only [Sem.run_bind, this, Result.andThen_ok, Sem.run_pure]
  -- in a new block
  have hout : ¬ len + ys.length ≤ cap → ∀ old : List Value, (∀ w', w'.heap = w.heap → (Builtin.firstCells esz len (.slice base len cap)).run c.P w' = .ok old.toArray w') →
      (∀ w', w'.heap = w.heap → (Builtin.firstCells esz ys.length (a.eval y)).run c.P w' = .ok cs.toArray w') → ∃ newCap w1, len + ys.length ≤ newCap ∧
      (execOp a.eval o).run c.P w = .ok (.value (.slice (some ⟨w.heap.size, 0, none⟩) (len + ys.length) newCap)) w1 ∧
      w1.heap = w.heap.push (.cells (old ++ cs ++ (Builtin.zeroCells zv.cells (newCap - (len + ys.length))).toList).toArray e (0, 0)) ∧ w1.os = w.os ∧ w1.tape = w.tape ∧ w1.output = w.output := fun hc old hold hnew => by
    obtain ⟨newCap, w0, hch, hcap, hw0, q1, q2, q3⟩ : ∃ newCap w0, (choose (.appendCap (len + ys.length) cap e)).run c.P w = .ok newCap w0 ∧ len + ys.length ≤ newCap ∧ w0.heap = w.heap ∧ w0.os = w.os ∧ w0.tape = w.tape ∧ w0.output = w.output := by
      refine ⟨(Question.appendCap (len + ys.length) cap e).cut (w.tape w.drawn (.appendCap (len + ys.length) cap e)), { w with drawn := w.drawn + 1 }, by simp only [run_choose, Question.forced, Bool.false_eq_true, if_false], ?_, rfl, rfl, rfl, rfl⟩
      simp only [Question.cut]
      omega
    have hti : ∀ w', (typeInfo e).run c.P w' = .ok inf w' := fun w' => run_typeInfo w' i1
    have hzv : ∀ w', (zeroValue e).run c.P w' = .ok zv w' := fun w' => run_zero i1 i2
    have hold' := hold w0 hw0
    have hnew' := hnew w0 hw0
    refine ⟨newCap, { w0 with heap := w0.heap.push (.cells (old ++ cs ++ (Builtin.zeroCells zv.cells (newCap - (len + ys.length))).toList).toArray e (0, 0)) }, hcap, ?_, by rw [← hw0], q1, q2, q3⟩
    simp only [execOp, ho, resolve, hcal, Sem.run_bind, Sem.run_pure, Result.andThen_ok, invoke, Go.builtin, Builtin.append_, harg0, harg1, hmap]
    rcases hdu with rfl | ⟨e2, rfl⟩
    all_goals
      simp only [List.getElem?_toArray, List.getElem?_cons_zero, List.getElem?_cons_succ, Sem.run_bind, run_und hut, Result.andThen_ok, hxe, hsize, run_und u2, Sem.run_pure,
        Bool.false_eq_true, if_false, m1, hc, Bool.not_false, if_true, Sem.run_ite, hti, hmax, hgrow hc, hch, run_askRoom, hold', hnew', hzv, newRow, run_newObj, hw0]
      rw [show old.toArray ++ cs.toArray ++ Builtin.zeroCells zv.cells (newCap - (len + ys.length)) = (old ++ cs ++ (Builtin.zeroCells zv.cells (newCap - (len + ys.length))).toList).toArray from by
        apply Array.ext'; simp]
  refine ⟨fun he => ?_, fun hne => ?_⟩
  · subst he
    have hcs : cs = [] := List.length_eq_zero_iff.1 (by simpa using m4)
    subst hcs
    have hle : len ≤ cap := by
      by_cases hn : obj.nil = true
      · have := hnilc hn; omega
      · obtain ⟨ad, _, _, _, h4, _⟩ := hownc (by simpa using hn); exact h4
    have := hin w (by simpa using hle) (fun ad _ => by simp [storeCells]) (fun _ => rfl)
    refine Good.pure h (v := a.eval x) ?_ (hx ▸ h.rd x)
    rw [this, hxe]
    simp
  · have hys : 0 < ys.length := List.length_pos_iff.2 hne
    by_cases hc : len + ys.length ≤ cap
    · have hn : obj.nil = false := by
        cases hb : obj.nil with
        | false => rfl
        | true => have := hnilc hb; omega
      obtain ⟨ad, rfl, h1, h2, h3, h4, h5⟩ := hownc hn
      have he : obj.esz = esz := hesz.resolve_left (by simp [hn])
      have hoff := h4 (by omega)
      have hadd : ad.add (len * esz) = ⟨po.b, len * esz, none⟩ := by rw [Addr.add_spot h2, h1, hoff, Nat.zero_add]
      obtain ⟨blk, te, fr, hb, hbn, hbf⟩ := h.heap.free oo obj po hL k1 hn
      have hroom' : (len + ys.length) * esz ≤ po.n := Nat.le_trans (Nat.mul_le_mul_right _ hc) h5
      have hroom2 : len * esz + cs.length ≤ po.n := by rw [m4]; rw [Nat.add_mul] at hroom'; exact hroom'
      obtain ⟨blk', s1, s2, s3, s4⟩ := run_storeCells_free c.P po.b (len * esz) te fr cs 0 blk w hb (by omega) (fun j hj => hbf j (by omega)) (CRs.cells _ _ m3)
      have hlt : po.b < w.heap.size := h.heap.lt hL k1 hn
      have hrun := hin _ hc (fun ad' hd => by obtain rfl := Option.some.inj hd; rw [hadd]; exact s1) (fun hd => by cases hd)
      obtain ⟨u1', u2'⟩ := h.heap.upd (h' := w.heap.setIfInBounds po.b (.cells blk' te fr)) (obj' := ⟨ver + 1, esz, false, false, obj.elems.take len ++ ys⟩) (po' := po) hL k1 (by simp)
        (.inl ⟨rfl, hn, fun _ => hfz⟩) (fun b hb2 hne => by
          rw [Array.getElem?_setIfInBounds_ne]
          rcases hne with hne | hne | hne
          · rw [hn] at hne; cases hne
          · rw [hfz] at hne; cases hne
          · exact fun e => hne e.symm)
        (.inr (by simp only; omega)) rfl hpos (h.heap.S oo obj po hL k1 hn) (fun _ => h.heap.W oo obj po hL k1 hn hfz)
        (by simp only [List.length_append, List.length_take]; rw [Nat.min_eq_left hlen]; exact hroom') ⟨blk', te, fr, by simp [hlt], by omega, hbf⟩
      have hβ : β.set oo po = β := by
        apply List.ext_getElem?
        intro j
        rw [List.getElem?_set]
        split
        · rename_i hj
          subst hj
          simp [hoLt', k1]
          have := (List.getElem?_eq_some_iff.1 k1).2
          rw [this]
        · rfl
      rw [hβ] at u1' u2'
      have hnewb : (w.heap.setIfInBounds po.b (.cells blk' te fr))[po.b]? = some (.cells blk' te fr) := by simp [hlt]
      have u3 := u2' fun hle => by
        refine CRrow.append ?_ ?_
        · have hr0 := (h.heap.row oo obj po hL k1 hn).take 0 len
          rw [he] at hr0
          simp only [Nat.zero_mul, Nat.add_zero, List.drop_zero] at hr0
          refine CRrow.stable hle (by simpa [memOf] using hb) (by simpa [memOf] using hnewb) (fun k hk1 hk2 => s4 k (.inl ?_)) hr0
          simp only [List.length_take, Nat.min_eq_left hlen] at hk2
          omega
        · simp only [List.length_take, Nat.min_eq_left hlen, Nat.zero_add]
          have hcat := (CRs.cat [] (CRs.mono hle _ _ m3) hsz)
          simp only [List.append_nil] at hcat
          exact CRcat.row (by simpa [memOf] using hnewb) hcat fun j v hj => by simpa using s3 j v hj
      refine ⟨_, _, _, β, hrun, .inl rfl, u1', u3, ?_, VR.mk_own rfl ?_⟩
      · refine ⟨h.ext.os, h.ext.tape, h.ext.output, by simp; exact h.ext.size, fun q hq hnq => ?_⟩
        rw [Array.getElem?_setIfInBounds_ne]
        · exact h.ext.block q hq hnq
        · rintro rfl
          rcases h.heap.W oo obj po hL k1 hn hfz with hw | hw
          · omega
          · exact hnq hw
      · simp only [memOf, ownX]
        refine ⟨_, po, List.getElem?_set_self hoLt, k1, Nat.le_refl _, fun _ => ?_⟩
        rw [if_neg (by simp)]
        exact ⟨ad, cap, rfl, h1, h2, hc, fun hc0 => by simpa using h4 hc0, by simpa using h5⟩
    · -- the elements that are there
      have hold : ∃ old : List Value, CRs (memOf w.heap σ.L β c.S0) (obj.elems.take len) old ∧ (obj.elems.take len).all (·.size == esz) = true ∧
          ∀ w', w'.heap = w.heap → (Builtin.firstCells esz len (.slice base len cap)).run c.P w' = .ok old.toArray w' := by
        by_cases hn : obj.nil = true
        · obtain ⟨rfl, rfl, rfl⟩ := hnilc hn
          exact ⟨[], by simp [CRs], by simp, fun w' _ => rfl⟩
        · have hn : obj.nil = false := by simpa using hn
          obtain ⟨ad, rfl, h1, h2, h3, h4, h5⟩ := hownc hn
          have he : obj.esz = esz := hesz.resolve_left (by simp [hn])
          have hr0 := (h.heap.row oo obj po hL k1 hn).take 0 len
          rw [he] at hr0
          simp only [Nat.zero_mul, Nat.add_zero, List.drop_zero] at hr0
          obtain ⟨old, g1, g2, g3⟩ := hr0.cells
          have hlt : (obj.elems.take len).length = len := by simp [Nat.min_eq_left hlen]
          rw [hlt] at g2
          refine ⟨old, g1, ?_, fun w' hw' => ?_⟩
          · rw [List.all_eq_true]
            intro q hq
            obtain ⟨i, hi⟩ := List.getElem?_of_mem hq
            obtain ⟨c1, e1, e2, _⟩ := CRrow_iff.1 hr0 i q hi
            simp only [beq_iff_eq]
            rw [← CR.length _ _ e1, e2]
          · simp only [Builtin.firstCells]
            by_cases h0 : len = 0
            · subst h0
              have : old = [] := List.length_eq_zero_iff.1 (by simpa using g2)
              subst this
              simp [loadCells, loadCellsFrom]
            · rw [← g2]
              refine run_load_stand h2 ?_
              rw [h1, h4 (by omega), hw']
              exact g3 (by intro h9; rw [h9] at hlt; simp at hlt; omega)
      obtain ⟨old, o1, o2, o3⟩ := hold
      have hnew := m2'
      obtain ⟨newCap, w1, v1, v2, v3, v4, v5, v6⟩ := hout hc old o3 hnew
      obtain ⟨rest, hrest⟩ : ∃ rest : List Value, rest = (Builtin.zeroCells zv.cells (newCap - (len + ys.length))).toList := ⟨_, rfl⟩
      rw [← hrest] at v3
      have hcrs : CRs (memOf w.heap σ.L β c.S0) (obj.elems.take len ++ ys) (old ++ cs) := CRs.append o1 m3
      have hall2 : (obj.elems.take len ++ ys).all (·.size == esz) = true := by
        rw [List.all_append, o2, hsz]; rfl
      have hlen2 : (obj.elems.take len ++ ys).length = len + ys.length := by simp [Nat.min_eq_left hlen]
      have hzl : rest.length = (newCap - (len + ys.length)) * esz := by
        have hzs : zv.cells.size = esz := by
          have hcr := i3 (memOf w.heap σ.L β c.S0)
          have := CR.length _ _ hcr
          simp only [Array.length_toList] at this
          rw [this, hzsz]
        rw [hrest]
        simp [Builtin.zeroCells, hzs]
      have hcat : CRcat (memOf w.heap σ.L β c.S0) esz (obj.elems.take len ++ ys) (old ++ cs ++ rest) := CRs.cat rest hcrs hall2
      have hol : old.length = len * esz := by
        have := CRs.length _ _ o1
        have h9 := sizes_take (xs := obj.elems.take len) o2 (Nat.le_refl _)
        rw [List.take_length] at h9
        rw [this, h9]
        simp [Nat.min_eq_left hlen]
      have hS : ¬ c.S0 w.heap.size := fun hs => by have := h.S0 _ hs; have := h.ext.size; omega
      have htot : (old ++ cs ++ rest).length = newCap * esz := by
        simp only [List.length_append, hol, m4, hzl]
        rw [← Nat.add_mul, ← Nat.add_mul]
        congr 1
        omega
      have hnewb : w1.heap[w.heap.size]? = some (.cells (old ++ cs ++ rest).toArray e (0, 0)) := by rw [v3]; simp
      obtain ⟨u1', u2'⟩ := h.heap.upd (h' := w1.heap) (obj' := ⟨ver + 1, esz, false, false, obj.elems.take len ++ ys⟩) (po' := ⟨w.heap.size, (old ++ cs ++ rest).length⟩) hL k1 (by rw [v3]; simp)
        (.inr (Nat.le_refl _)) (fun b hb2 _ => by rw [v3]; exact Heap.push_get hb2)
        (.inr (by simp only; omega)) rfl hpos hS (fun _ => .inl h.ext.size)
        (by simp only [hlen2, htot]; exact Nat.mul_le_mul_right _ v1) ⟨_, _, _, hnewb, by simp, fun j _ => by simp⟩
      have u3 := u2' fun hle => by
        refine CRcat.row (c := (old ++ cs ++ rest).toArray) (e := e) (fr := (0, 0)) (by simpa [memOf] using hnewb) (hcat.mono hle) fun j v hj => ?_
        simpa using hj
      refine ⟨_, _, w1, _, v2, .inl rfl, u1', u3, ?_, VR.mk_own rfl ?_⟩
      · refine ⟨v4.trans h.ext.os, v5.trans h.ext.tape, v6.trans h.ext.output, by rw [v3]; simp; have := h.ext.size; omega, fun q hq hnq => ?_⟩
        rw [v3, Heap.push_get (by have := h.ext.size; omega)]
        exact h.ext.block q hq hnq
      · simp only [memOf, ownX]
        refine ⟨_, _, List.getElem?_set_self hoLt, List.getElem?_set_self hoLt', Nat.le_refl _, fun _ => ?_⟩
        rw [if_neg (by simp)]
        exact ⟨_, _, rfl, rfl, rfl, v1, fun _ => by simp, by simp only [htot, Nat.zero_add]; exact Nat.le_refl _⟩

end Go.Proofs.Ytpneikbihcoaaab.Vm

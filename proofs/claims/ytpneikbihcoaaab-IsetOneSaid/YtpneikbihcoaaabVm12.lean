/- What an operation gives is what the machine does: all operations together. -/
import Derived.Test.YtpneikbihcoaaabVm11
namespace Go.Proofs.Ytpneikbihcoaaab.Vm
set_option linter.unusedVariables false
set_option linter.unusedSimpArgs false

variable {c : Ctx} {σ : AState} {a : Act} {w : World} {β : List PO}

theorem good_bytes (h : Rel c σ a w β) {s d : TypeId} {x : Operand} {o : Oper} {e eb ns nd : Nat} {b : ByteArray} (ho : o.op = .convert s d x)
    (hs : tk c.P s = some (.str, ns)) (hd : tk c.P d = some (.slice e 1 eb, nd)) (he : tk c.P e = some (.int .u8, 1)) (hx : σ.rd x = .str b) :
    Good c σ.L β w (.own σ.L.length 0 0 b.size) (σ.L ++ [⟨0, 1, false, false, strBytes b⟩]) ((execOp a.eval o).run c.P w) := by
  have hv := (hx ▸ h.rd x : VR _ (.str b) _).str
  have hus := tk_str hs
  obtain ⟨hud, _, _⟩ := tk_slice hd
  have hue := tk_int he
  obtain ⟨cap, hcap, hle⟩ : ∃ cap, cap = (Question.appendCap b.size 0 e).cut (w.tape w.drawn (.appendCap b.size 0 e)) ∧ b.size ≤ cap := ⟨_, rfl, by simp only [Question.cut]; omega⟩
  have hcs : CRs (memOf w.heap σ.L β c.S0) (strBytes b) (b.data.toList.map fun x => Value.int .u8 x.toNat) := strBytes_cells _ b
  have hall : (strBytes b).all (·.size == 1) = true := by
    unfold strBytes
    rw [List.all_eq_true]
    intro q hq
    obtain ⟨y, _, rfl⟩ := List.mem_map.1 hq
    rfl
  have hcat := CRs.cat (List.replicate (cap - b.size) (Value.int .u8 0)) hcs hall
  obtain ⟨cs, hcse⟩ : ∃ cs, cs = (b.data.toList.map fun x => Value.int .u8 x.toNat) ++ List.replicate (cap - b.size) (Value.int .u8 0) := ⟨_, rfl⟩
  rw [← hcse] at hcat
  have hsz : b.data.size = b.size := rfl
  have hlen : cs.length = cap := by
    rw [hcse]
    simp only [List.length_append, List.length_map, List.length_replicate, Array.length_toList, hsz]
    omega
  obtain ⟨g1, g2, g3⟩ := h.allocF (w' := { w with drawn := w.drawn + 1, heap := w.heap.push (.cells cs.toArray e (cap, cap + 1)) }) (e := e) (fr := (cap, cap + 1)) (fun j hj => by simp only; omega) Nat.one_pos hcat rfl rfl rfl rfl
  refine ⟨_, .slice (some ⟨w.heap.size, 0, none⟩) b.size cap, _, _, ?_, .inl rfl, g1, g2, g3, VR.mk_own rfl (ownX_new_own _ _ h.heap.len _ _ _ _ _ _ hle (by omega))⟩
  have hcells : b.data.map (fun x => Value.int .u8 (x.toNat : Int)) ++ Array.replicate (cap - b.size) (Value.int .u8 0) = cs.toArray := by
    apply Array.ext'
    simp [hcse]
  have hcap' := hcap.symm
  simp only [execOp, ho, hv, Go.convert, Sem.run_bind, run_und hus, run_und hud, run_und hue, Result.andThen_ok, Conv.stringToBytes, run_choose, Question.forced, Bool.false_eq_true, if_false, newRow, run_newObj, Sem.run_pure, hcap', hcells, markStringish, run_shape]
  have hshape : World.shape? { heap := w.heap.push (.cells cs.toArray e (0, 0)), tape := w.tape, drawn := w.drawn + 1, os := w.os, output := w.output } w.heap.size = some (e, cap) := by
    simp [World.shape?, hlen]
  simp only [hshape, run_freeze, Result.andThen_ok]
  congr 1
  unfold World.freeze
  simp only [Nat.one_ne_zero, if_false]
  congr 1
  apply Array.ext
  · simp
  · intro k k1 k2
    rw [Array.getElem_modify]
    by_cases hk : w.heap.size = k
    · subst hk
      simp
    · rw [if_neg hk]
      simp only [Array.size_modify, Array.size_push] at k1
      rw [Array.getElem_push_lt (by omega), Array.getElem_push_lt (by omega)]

theorem bytesStr_int {x : AV} {xs : List AV} {l : List UInt8} (h : bytesStr (x :: xs) = some l) : ∃ n, x = .int .u8 n := by
  cases x with
  | int k n => cases k with
    | u8 => exact ⟨n, rfl⟩
    | _ => simp [bytesStr] at h
  | _ => simp [bytesStr] at h

theorem bytesStr_cells {m : Mem} : ∀ {xs : List AV} {l : List UInt8} {cs : List Value}, bytesStr xs = some l → CRs m xs cs → ∃ ns : List Int, cs = ns.map (Value.int .u8) ∧ l = ns.map (fun n => UInt8.ofNat n.toNat)
  | [], l, cs, h, hc => by
    simp [bytesStr] at h
    simp only [CRs] at hc
    subst h hc
    exact ⟨[], rfl, rfl⟩
  | x :: xs, l, cs, h, hc => by
    obtain ⟨n, rfl⟩ := bytesStr_int h
    simp only [bytesStr] at h
    obtain ⟨l', h1, rfl⟩ := Option.map_eq_some_iff.1 h
    simp only [CRs, CR] at hc
    obtain ⟨c1, c2, rfl, rfl, h3⟩ := hc
    obtain ⟨ns, rfl, rfl⟩ := bytesStr_cells h1 h3
    exact ⟨n :: ns, rfl, rfl⟩

theorem bytesStr_all : ∀ {xs : List AV} {l : List UInt8}, bytesStr xs = some l → xs.all (fun x => x.size == 1 && x.memo) = true
  | [], l, h => rfl
  | x :: xs, l, h => by
    obtain ⟨n, rfl⟩ := bytesStr_int h
    simp only [bytesStr] at h
    obtain ⟨l', h1, rfl⟩ := Option.map_eq_some_iff.1 h
    rw [List.all_cons, bytesStr_all h1]; rfl

theorem run_push {P : Program} {w : World} (f : Value → ByteArray → Sem (ForInStep ByteArray)) (hf : ∀ n s, (f (.int .u8 n) s).run P w = .ok (.yield (s.push (UInt8.ofNat n.toNat))) w) : ∀ (ns : List Int) (s : ByteArray),
    (forIn (ns.map (Value.int .u8)) s f : Sem ByteArray).run P w = .ok ⟨(s.data.toList ++ ns.map (fun n => UInt8.ofNat n.toNat)).toArray⟩ w
  | [], s => by simp
  | n :: ns, s => by
    simp only [List.map_cons, List.forIn_cons, Sem.run_bind, hf, Result.andThen_ok]
    have := run_push f hf ns (s.push (UInt8.ofNat n.toNat))
    rw [this]
    simp [ByteArray.push]

theorem good_text (h : Rel c σ a w β) {s d : TypeId} {x : Operand} {o : Oper} {e esz eb ns nd : Nat} {xs : List AV} {l : List UInt8} (ho : o.op = .convert s d x)
    (hs : tk c.P s = some (.slice e esz eb, ns)) (hd : tk c.P d = some (.str, nd)) (he : tk c.P e = some (.int .u8, 1)) (hx : σ.elems (σ.rd x) = some xs) (hl : bytesStr xs = some l) :
    Good c σ.L β w (.str ⟨l.toArray⟩) σ.L ((execOp a.eval o).run c.P w) := by
  obtain ⟨hus, _, _⟩ := tk_slice hs
  have hud := tk_str hd
  have hue := tk_int he
  have hmore : σ.more (σ.rd x) = some xs := by
    cases hr : σ.rd x <;> rw [hr] at hx <;> simp only [AState.elems, AState.more] at hx ⊢ <;> first | exact hx | (cases hx; done)
  obtain ⟨ad, cap, hv, hrow⟩ := h.row (h.rd x) hx
  obtain ⟨_, cs, m2, m3, m4⟩ := more_sound (esz := 1) h (h.rd x) hmore (bytesStr_all hl) (fun _ => rfl)
  obtain ⟨nums, rfl, rfl⟩ := bytesStr_cells hl m3
  refine Good.pure h (v := .string ⟨(nums.map fun n => UInt8.ofNat n.toNat).toArray⟩) ?_ (VR.mk_str _ _)
  have hm := m2 w rfl
  rw [hv] at hm
  simp only [execOp, ho, hv, Go.convert, Sem.run_bind, run_und hus, run_und hud, run_und hue, Result.andThen_ok]
  cases ad with
  | none =>
    have h0 : xs = [] := by
      rcases hrow with h0 | ⟨d, sz, h0, _⟩
      · exact h0
      · cases h0
    subst h0
    simp at m4
    subst m4
    rfl
  | some ad =>
    simp only [Builtin.firstCells, Nat.mul_one] at hm
    simp only [Conv.bytesToString, Sem.run_bind, hm, Result.andThen_ok, ← Array.forIn_toList]
    rw [run_push _ (fun n s => rfl) nums]
    simp

end Go.Proofs.Ytpneikbihcoaaab.Vm

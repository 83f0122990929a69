/- Loops that count, and objects that are known no more. -/
import Derived.Test.YtpneikbihcoaaabVm22
namespace Go.Proofs.Ytpneikbihcoaaab.Vm
set_option linter.unusedVariables false
set_option linter.unusedSimpArgs false

variable {c : Ctx} {f : FuncId} {σ : AState} {R : AV → List AObj → Prop} {k : List Item} {a : Act} {w : World} {β : List PO}

theorem map_zip (g : Nat → AV) : ∀ ps : List Nat, ps.map (fun j => (j, g j)) = ps.zip (ps.map g)
  | [] => rfl
  | p :: ps => by simp [map_zip g ps]

/-- These slots alone are kept in mind, and they are as told. -/
theorem AGo.again {ps : List Nat} {V : List AV} {H : List AObj} (h : AGo c f k ⟨lk (ps.zip V), H⟩ R) (h0 : ps.map σ.env = V) (hL : σ.L = H) : AGo c f k σ R := by
  refine AGo.keep ps ?_
  rw [map_zip, h0, hL]
  exact h

/-- A loop that counts to n; I is what is so at the i-th round. -/
theorem AGo.loopP {x : Code} (I : Nat → Prop) (ps : List Nat) (V : Nat → List AV) (H : Nat → List AObj) (n : Nat) (h0 : ps.map σ.env = V 0) (hL : σ.L = H 0) (hI : I 0)
    (hstep : ∀ i, i < n → I i → (I (i + 1) → AGo c f (.inLoop x :: k) ⟨lk (ps.zip (V (i + 1))), H (i + 1)⟩ R) → AGo c f (.code x :: .inLoop x :: k) ⟨lk (ps.zip (V i)), H i⟩ R)
    (hend : I n → AGo c f (.code x :: .inLoop x :: k) ⟨lk (ps.zip (V n)), H n⟩ R) : AGo c f (.code (.loop x) :: k) σ R := by
  have key : ∀ m i, i + m = n → I i → AGo c f (.code x :: .inLoop x :: k) ⟨lk (ps.zip (V i)), H i⟩ R := by
    intro m
    induction m with
    | zero => intro i hi hI; simp at hi; subst hi; exact hend hI
    | succ m ih => intro i hi hI; exact hstep i (by omega) hI fun hI' => AGo.inLoop (ih (i + 1) (by omega) hI')
  exact AGo.loop (AGo.again (key n 0 (by omega) hI) h0 hL)

/-- A loop that counts to n. -/
theorem AGo.loopN {x : Code} (ps : List Nat) (V : Nat → List AV) (H : Nat → List AObj) (n : Nat) (h0 : ps.map σ.env = V 0) (hL : σ.L = H 0)
    (hstep : ∀ i, i < n → AGo c f (.inLoop x :: k) ⟨lk (ps.zip (V (i + 1))), H (i + 1)⟩ R → AGo c f (.code x :: .inLoop x :: k) ⟨lk (ps.zip (V i)), H i⟩ R)
    (hend : AGo c f (.code x :: .inLoop x :: k) ⟨lk (ps.zip (V n)), H n⟩ R) : AGo c f (.code (.loop x) :: k) σ R :=
  AGo.loopP (fun _ => True) ps V H n h0 hL trivial (fun i hi _ h => hstep i hi (h trivial)) fun _ => hend

/-- Of the objects from number n on nothing is known any more. -/
theorem Rel.trim (h : Rel c σ a w β) (n : Nat) (hn : n ≤ σ.L.length) (h0 : c.L0.length ≤ n) (hids : ∀ obj ∈ σ.L.take n, AV.idsL (fun o => decide (o < n)) obj.elems = true)
    (henv : ∀ i, (σ.env i).ids (fun o => decide (o < n)) = true) : ∃ β', Rel c ⟨σ.env, σ.L.take n⟩ a w β' := by
  have hc : ∀ o, (List.range n).contains o = decide (o < n) := fun o => by rw [Bool.eq_iff_iff]; simp
  have hi : ∀ o, o < n → (List.range n).idxOf o = o := fun o ho => by
    have := idxOf_range_append n [] (by simp) o ho
    simpa using this
  obtain ⟨β', g1, g2⟩ := h.heap.pick (List.range n) (fun k hk => by simp at hk; omega) List.nodup_range (fun k hk obj hobj => by
    have hk' : k < n := by simpa using hk
    have := hids obj (by rw [List.mem_iff_getElem?]; exact ⟨k, by rw [List.getElem?_take_of_lt hk']; exact hobj⟩)
    rw [show (fun o => (List.range n).contains o) = (fun o => decide (o < n)) from funext hc]
    exact this)
  have hL : ((List.range n).map fun k => (σ.L.getD k default).ren ((List.range n).idxOf ·)) = σ.L.take n := by
    apply List.ext_getElem?
    intro i
    rw [List.getElem?_map]
    by_cases hlt : i < n
    · rw [List.getElem?_range hlt, List.getElem?_take_of_lt hlt]
      have hlt' : i < σ.L.length := by omega
      simp only [Option.map_some]
      rw [List.getElem?_eq_getElem hlt']
      congr 1
      have e : σ.L.getD i default = σ.L[i] := by simp [List.getD, hlt']
      rw [e]
      unfold AObj.ren
      rw [AV.renL_id (fun o => decide (o < n)) _ (fun o ho => hi o (by simpa using ho)) _ (hids _ (by rw [List.mem_iff_getElem?]; exact ⟨i, by rw [List.getElem?_take_of_lt hlt]; exact List.getElem?_eq_getElem hlt'⟩))]
    · rw [List.getElem?_eq_none (by simpa using hlt), List.getElem?_eq_none (by simp; omega)]
      rfl
  rw [hL] at g1 g2
  refine ⟨β', h.defers, h.size, fun i => ?_, g2, h.ext, h.S0, ?_⟩
  · have := VR.ren g1 _ _ (by rw [show (fun o => (List.range n).contains o) = (fun o => decide (o < n)) from funext hc]; exact henv i) (h.env i)
    rwa [AV.ren_id (fun o => decide (o < n)) _ (fun o ho => hi o (by simpa using ho)) _ (henv i)] at this
  · refine ⟨fun b hb => h.le.S b (g1.S b hb), h.le.h, fun x u hx => ?_, h.le.size⟩
    have hx' := h.le.X x u hx
    cases x <;> simp only [Ctx.m0, memOf, ownX] at hx
    case own o ver off len =>
      obtain ⟨obj, po, h1, _⟩ := hx
      have ho : o < n := Nat.lt_of_lt_of_le (List.getElem?_eq_some_iff.1 h1).1 h0
      have := g1.own o ver off len u (by rw [hc]; simpa using ho) hx'
      rwa [hi o ho] at this
    case addr o ver i path off =>
      obtain ⟨obj, po, h1, _⟩ := hx
      have ho : o < n := Nat.lt_of_lt_of_le (List.getElem?_eq_some_iff.1 h1).1 h0
      have := g1.addr o ver i path off u (by rw [hc]; simpa using ho) hx'
      rwa [hi o ho] at this

theorem lk_all {p : AV → Bool} (ha : p .any = true) : ∀ (l : List (Nat × AV)), l.all (fun q => p q.2) = true → ∀ i, p (lk l i) = true
  | [], _, i => ha
  | (j, x) :: l, h, i => by
    simp only [List.all_cons, Bool.and_eq_true] at h
    rw [lk_cons]
    split
    · exact h.1
    · exact lk_all ha l h.2 i

theorem AGo.trimTo {l : List (Nat × AV)} {L M N : List AObj} (h0 : c.L0 = L) (hw : WFL L) (hM : M.all (fun obj => AV.idsL (fun o => decide (o < L.length + M.length)) obj.elems) = true)
    (hl : l.all (fun q => q.2.ids fun o => decide (o < L.length + M.length)) = true) (h : AGo c f k ⟨lk l, L ++ M⟩ R) : AGo c f k ⟨lk l, L ++ (M ++ N)⟩ R := by
  intro b a w β cs e1 e2 hr
  have ht : (L ++ (M ++ N)).take (L.length + M.length) = L ++ M := by
    rw [← List.append_assoc, ← List.length_append, List.take_left']
    rfl
  obtain ⟨β', hr'⟩ := hr.trim (L.length + M.length) (by simp <;> omega) (by rw [h0]; omega) (by
    rw [ht]
    intro obj hobj
    rcases List.mem_append.1 hobj with h1 | h1
    · exact AV.idsL_mono (fun o ho => by simp only [decide_eq_true_eq] at ho ⊢; omega) _ (hw obj h1)
    · exact List.all_eq_true.1 hM obj h1) (lk_all rfl l hl)
  rw [ht] at hr'
  exact h b a w β' cs e1 e2 hr'

section
variable (o : Nat) (obj : AObj)
@[simp] theorem frzV_own (o' ver off len : Nat) : frzV o obj (.own o' ver off len) = if o' = o ∧ ver = obj.ver ∧ off + len ≤ obj.elems.length then .slice ((obj.elems.drop off).take len) else .own o' ver off len := rfl
@[simp] theorem frzV_addr (o' ver i : Nat) (path : List Nat) (off : Nat) : frzV o obj (.addr o' ver i path off) =
    if o' = o ∧ ver = obj.ver then (match (obj.elems[i]?).bind fun x => if x.offP path = some off then x.getP path else none with
      | some y => .ref y
      | none => .addr o' ver i path off) else .addr o' ver i path off := rfl
@[simp] theorem frzV_any : frzV o obj .any = .any := rfl
@[simp] theorem frzV_int (k : IntKind) (n : Int) : frzV o obj (.int k n) = .int k n := rfl
@[simp] theorem frzV_bool (b : Bool) : frzV o obj (.bool b) = .bool b := rfl
@[simp] theorem frzV_str (s : ByteArray) : frzV o obj (.str s) = .str s := rfl
@[simp] theorem frzV_agg (xs : List AV) : frzV o obj (.agg xs) = .agg xs := rfl
@[simp] theorem frzV_tup (xs : List AV) : frzV o obj (.tup xs) = .tup xs := rfl
@[simp] theorem frzV_slice (xs : List AV) : frzV o obj (.slice xs) = .slice xs := rfl
@[simp] theorem frzV_ref (x : AV) : frzV o obj (.ref x) = .ref x := rfl
@[simp] theorem frzV_nilS : frzV o obj .nilS = .nilS := rfl
@[simp] theorem frzV_nilP : frzV o obj .nilP = .nilP := rfl
@[simp] theorem frzV_fn (g : Nat) (xs : List AV) : frzV o obj (.fn g xs) = .fn g xs := rfl
end
attribute [simp] AV.ids AV.idsL frzL AObj.cold

end Go.Proofs.Ytpneikbihcoaaab.Vm

/- What an argument reads as, told as a walk sees it. -/
import Derived.Test.YtpneikbihcoaaabVm24
namespace Go.Proofs.Ytpneikbihcoaaab.Vm
set_option linter.unusedVariables false
set_option linter.unusedSimpArgs false

/-- Do a struct's fields lie one behind another? -/
def layF (P : Program) : List Field → Nat → Option Nat
  | [], off => some off
  | f :: fs, off => if f.offset = off then layF P fs (off + P.cellsOf f.type) else none

/-- Is a type one that is told here, and laid out so? -/
def okT (P : Program) : Nat → TypeId → Bool
  | 0, _ => false
  | d + 1, t =>
    match P.underlying t with
    | some .bool | some (.int _) | some .string => P.cellsOf t == 1
    | some (.slice e) => P.cellsOf t == 1 && P.cellsOf e != 0 && okT P d e
    | some (.pointer e) => P.cellsOf t == 1 && P.cellsOf e != 0 && okT P d e
    | some (.struct fs) => layF P fs.toList 0 == some (P.cellsOf t) && fs.toList.all fun (f : Field) => okT P d f.type
    | some (.array n e) => n * P.cellsOf e == P.cellsOf t && okT P d e
    | _ => false

/-- Is x a value of this type? -/
def Fits (P : Program) : Nat → TypeId → AV → Prop
  | 0, _, _ => False
  | d + 1, t, x =>
    match P.underlying t with
    | some .bool => ∃ b, x = .bool b
    | some (.int k) => ∃ n, x = .int k n ∧ (Lit.int k n).wf = true
    | some .string => ∃ s, x = .str s ∧ s.size ≤ maxLen
    | some (.slice e) => ∃ xs, x = .slice xs ∧ xs.length ≤ maxLen ∧ ∀ y ∈ xs, Fits P d e y ∧ y.size = P.cellsOf e
    | some (.pointer e) => x = .nilP ∨ ∃ y, x = .ref y ∧ Fits P d e y ∧ y.size = P.cellsOf e
    | some (.struct fs) => ∃ xs, x = .agg xs ∧ xs.length = fs.toList.length ∧ ∀ (i : Nat) (f : Field) (y : AV), fs.toList[i]? = some f → xs[i]? = some y → Fits P d f.type y
    | some (.array n e) => ∃ xs, x = .agg xs ∧ xs.length = n ∧ ∀ y ∈ xs, Fits P d e y
    | _ => False

section
variable {P : Program} {d : Nat} {t : TypeId} {x : AV}
theorem Fits.bool (hu : P.underlying t = some .bool) (h : Fits P d t x) : ∃ b, x = .bool b := by
  cases d with
  | zero => exact h.elim
  | succ d => unfold Fits at h; rw [hu] at h; exact h
theorem Fits.int {k : IntKind} (hu : P.underlying t = some (.int k)) (h : Fits P d t x) : ∃ n, x = .int k n ∧ (Lit.int k n).wf = true := by
  cases d with
  | zero => exact h.elim
  | succ d => unfold Fits at h; rw [hu] at h; exact h
theorem Fits.str (hu : P.underlying t = some .string) (h : Fits P d t x) : ∃ s, x = .str s ∧ s.size ≤ maxLen := by
  cases d with
  | zero => exact h.elim
  | succ d => unfold Fits at h; rw [hu] at h; exact h
theorem Fits.slice {e : TypeId} (hu : P.underlying t = some (.slice e)) (h : Fits P (d + 1) t x) : ∃ xs, x = .slice xs ∧ xs.length ≤ maxLen ∧ ∀ y ∈ xs, Fits P d e y ∧ y.size = P.cellsOf e := by
  unfold Fits at h; rw [hu] at h; exact h
theorem Fits.ptr {e : TypeId} (hu : P.underlying t = some (.pointer e)) (h : Fits P (d + 1) t x) : x = .nilP ∨ ∃ y, x = .ref y ∧ Fits P d e y ∧ y.size = P.cellsOf e := by
  unfold Fits at h; rw [hu] at h; exact h
theorem Fits.struct {fs : Array Field} (hu : P.underlying t = some (.struct fs)) (h : Fits P (d + 1) t x) :
    ∃ xs, x = .agg xs ∧ xs.length = fs.toList.length ∧ ∀ (i : Nat) (f : Field) (y : AV), fs.toList[i]? = some f → xs[i]? = some y → Fits P d f.type y := by
  unfold Fits at h; rw [hu] at h; exact h
theorem Fits.array {n : Nat} {e : TypeId} (hu : P.underlying t = some (.array n e)) (h : Fits P (d + 1) t x) : ∃ xs, x = .agg xs ∧ xs.length = n ∧ ∀ y ∈ xs, Fits P d e y := by
  unfold Fits at h; rw [hu] at h; exact h
end
theorem wf_u8 {n : Int} (h : (Lit.int .u8 n).wf = true) : 0 ≤ n ∧ n < 256 := by
  simp [Lit.wf, IntKind.min, IntKind.max, IntKind.signed, IntKind.bits] at h; omega
theorem wf_u32 {n : Int} (h : (Lit.int .u32 n).wf = true) : 0 ≤ n ∧ n < 4294967296 := by
  simp [Lit.wf, IntKind.min, IntKind.max, IntKind.signed, IntKind.bits] at h; omega
theorem wf_u64 {n : Int} (h : (Lit.int .u64 n).wf = true) : 0 ≤ n ∧ n < 18446744073709551616 := by
  simp [Lit.wf, IntKind.min, IntKind.max, IntKind.signed, IntKind.bits] at h; omega
theorem wf_i64 {n : Int} (h : (Lit.int .i64 n).wf = true) : -9223372036854775808 ≤ n ∧ n < 9223372036854775808 := by
  simp [Lit.wf, IntKind.min, IntKind.max, IntKind.signed, IntKind.bits] at h; omega

theorem mapM_get {α β : Type} (f : α → Option β) : ∀ (l : List α) (ys : List β), l.mapM f = some ys → ys.length = l.length ∧ ∀ (i : Nat) (a : α), l[i]? = some a → ∃ y, ys[i]? = some y ∧ f a = some y
  | [], ys, h => by
    simp at h; subst h; simp
  | a :: l, ys, h => by
    rw [List.mapM_cons] at h
    simp only [Option.bind_eq_bind, Option.bind_eq_some_iff, Option.pure_def, Option.some.injEq] at h
    obtain ⟨y, h1, ys', h2, rfl⟩ := h
    obtain ⟨e1, e2⟩ := mapM_get f l ys' h2
    refine ⟨by simp [e1], fun i b hb => ?_⟩
    cases i with
    | zero => simp at hb; subst hb; exact ⟨y, rfl, h1⟩
    | succ i => simpa using e2 i b (by simpa using hb)

/-- A row of choices. -/
theorem choose_row {α : Type} (n : Nat) (p : Nat → α → Prop) (h : ∀ i, i < n → ∃ x, p i x) : ∃ xs : List α, xs.length = n ∧ ∀ (i : Nat) x, xs[i]? = some x → p i x := by
  induction n with
  | zero => exact ⟨[], rfl, fun i x hx => by simp at hx⟩
  | succ n ih =>
    obtain ⟨xs, h1, h2⟩ := ih fun i hi => h i (by omega)
    obtain ⟨x, hx⟩ := h n (by omega)
    refine ⟨xs ++ [x], by simp [h1], fun i y hy => ?_⟩
    by_cases hi : i < xs.length
    · rw [List.getElem?_append_left hi] at hy; exact h2 i y hy
    · rw [List.getElem?_append_right (by omega)] at hy
      have : i - xs.length = 0 := by
        rcases Nat.eq_zero_or_pos (i - xs.length) with h0 | h0
        · exact h0
        · rw [List.getElem?_eq_none (by simp; omega)] at hy; cases hy
      rw [this] at hy
      simp at hy
      subst hy
      rw [show i = n by omega]; exact hx

def mem0 (w : World) : Mem := memOf w.heap [] [] (fun _ => False)
theorem mem0_S (w : World) (b : Nat) : ¬ (mem0 w).S b := by
  rintro (h | ⟨o, obj, po, h, _⟩)
  · exact h
  · simp at h

theorem cells_stand {w : World} {base : Nat} {ad : Addr} {n : Nat} {cs : List Value} (h : w.cells? base ad n = some cs) : cs.length = n ∧ (0 < n → ad.spot = none ∧ Stand w.heap ad.block ad.off cs) := by
  unfold World.cells? at h
  split at h
  · obtain ⟨h1, h2⟩ := mapM_get _ _ _ h
    rw [List.length_range] at h1
    refine ⟨h1, fun hn => ?_⟩
    have cell : ∀ i, i < n → ∃ y, cs[i]? = some y ∧ w.cell? (ad.add i) = some y := fun i hi => h2 i i (by rw [List.getElem?_range hi])
    obtain ⟨y0, _, c0⟩ := cell 0 hn
    rw [show ad.add 0 = ad by simp [Addr.add]] at c0
    unfold World.cell? at c0
    split at c0
    · rename_i c e fr hb
      split at c0
      · cases c0
      · rename_i hs
        have hs : ad.spot = none := by simpa using hs
        refine ⟨hs, c, e, fr, hb, fun j v hj => ?_⟩
        have hj' : j < n := by rw [← h1]; exact (List.getElem?_eq_some_iff.1 hj).1
        obtain ⟨y, e1, e2⟩ := cell j hj'
        rw [hj] at e1
        obtain rfl := Option.some.inj e1
        rw [Addr.add_spot hs] at e2
        unfold World.cell? at e2
        simp only [hb] at e2
        simpa using e2
    · cases c0
  · cases h

theorem CRs_of_parts {m : Mem} (P : Program) : ∀ (fs : List Field) (xs : List AV) (off tot : Nat) (cs : List Value), layF P fs off = some tot → xs.length = fs.length → cs.length = tot → 
    (∀ (i : Nat) f y, fs[i]? = some f → xs[i]? = some y → CR m y ((cs.drop f.offset).take (P.cellsOf f.type)) ∧ y.size = P.cellsOf f.type) → CRs m xs (cs.drop off) ∧ AV.sizes xs + off = tot
  | [], xs, off, tot, cs, hl, hx, hc, h => by
    simp only [layF, Option.some.injEq] at hl
    have : xs = [] := List.eq_nil_of_length_eq_zero (by simpa using hx)
    subst this hl
    refine ⟨?_, by simp [AV.sizes]⟩
    simp only [CRs]
    exact List.drop_eq_nil_of_le (by omega)
  | f :: fs, [], off, tot, cs, hl, hx, hc, h => by simp at hx
  | f :: fs, x :: xs, off, tot, cs, hl, hx, hc, h => by
    simp only [layF] at hl
    split at hl
    · rename_i ho
      obtain ⟨e1, e2⟩ := CRs_of_parts P fs xs _ tot cs hl (by simpa using hx) hc fun i g y hg hy => h (i + 1) g y (by simpa using hg) (by simpa using hy)
      obtain ⟨g1, g2⟩ := h 0 f x rfl rfl
      refine ⟨?_, by simp only [AV.sizes]; omega⟩
      simp only [CRs]
      refine ⟨(cs.drop off).take (P.cellsOf f.type), (cs.drop off).drop (P.cellsOf f.type), (List.take_append_drop _ _).symm, ho ▸ g1, ?_⟩
      rw [List.drop_drop]
      exact e1
    · cases hl

theorem CRs_of_arr {m : Mem} (c : Nat) : ∀ (xs : List AV) (k : Nat) (cs : List Value), cs.length = (k + xs.length) * c →
    (∀ (i : Nat) y, xs[i]? = some y → CR m y ((cs.drop ((k + i) * c)).take c) ∧ y.size = c) → CRs m xs (cs.drop (k * c)) ∧ AV.sizes xs = xs.length * c
  | [], k, cs, hc, h => by
    refine ⟨?_, by simp [AV.sizes]⟩
    simp only [CRs]
    exact List.drop_eq_nil_of_le (by simp at hc; omega)
  | x :: xs, k, cs, hc, h => by
    obtain ⟨e1, e2⟩ := CRs_of_arr c xs (k + 1) cs (by rw [hc]; simp [Nat.add_assoc, Nat.add_comm 1]) fun i y hy => by
      have := h (i + 1) y (by simpa using hy)
      rwa [show k + (i + 1) = k + 1 + i by omega] at this
    obtain ⟨g1, g2⟩ := h 0 x rfl
    refine ⟨?_, by simp only [AV.sizes, e2, g2, List.length_cons, Nat.add_mul, Nat.one_mul]; omega⟩
    simp only [CRs]
    refine ⟨(cs.drop (k * c)).take c, (cs.drop (k * c)).drop c, (List.take_append_drop _ _).symm, by simpa using g1, ?_⟩
    rw [List.drop_drop]
    rwa [show k * c + c = (k + 1) * c by rw [Nat.add_mul, Nat.one_mul]]

theorem trod_av {H : Type} {enc : TypeId × Value → H} {P : Program} {w : World} {spare : Nat → Bool} : ∀ (fuel d : Nat) (t : TypeId) (cs : List Value) (dd : DataW H) (ps : List MemPlace), okT P d t = true →
    DataW.trod enc P w 0 spare true fuel t cs = some (dd, ps) → ∃ x, Fits P d t x ∧ CR (mem0 w) x cs ∧ x.size = P.cellsOf t
  | 0, d, t, cs, dd, ps, ho, h => by simp [DataW.trod] at h
  | fuel + 1, 0, t, cs, dd, ps, ho, h => by simp [okT] at ho
  | fuel + 1, d + 1, t, cs, dd, ps, ho, h => by
    unfold okT at ho
    cases hu : P.underlying t with
    | none => rw [hu] at ho; cases ho
    | some td =>
      rw [hu] at ho
      unfold Fits
      rw [hu]
      cases td <;> simp only at ho ⊢ <;> try (cases ho; done)
      case bool =>
        obtain ⟨b, rfl, _⟩ := DataW.trod_bool hu h
        exact ⟨.bool b, ⟨b, rfl⟩, by simp [CR], by simpa [AV.size] using (beq_iff_eq.1 ho).symm⟩
      case int k =>
        obtain ⟨n, rfl, _, hw⟩ := DataW.trod_int hu h
        exact ⟨.int k n, ⟨n, rfl, hw⟩, by simp [CR], by simpa [AV.size] using (beq_iff_eq.1 ho).symm⟩
      case string =>
        obtain ⟨s, rfl, _, hs⟩ := DataW.trod_string hu h
        exact ⟨.str s, ⟨s, rfl, hs⟩, by simp [CR], by simpa [AV.size] using (beq_iff_eq.1 ho).symm⟩
      case pointer e =>
        simp only [Bool.and_eq_true, beq_iff_eq, bne_iff_ne, ne_eq] at ho
        obtain ⟨⟨o1, o2⟩, o3⟩ := ho
        rcases DataW.trod_pointer hu h with ⟨rfl, _⟩ | ⟨a, cs', y, n, hn, rfl, _, hc, hy⟩
        · exact ⟨.nilP, .inl rfl, by simp [CR], by simpa [AV.size] using o1.symm⟩
        · obtain rfl := Nat.succ.inj hn
          obtain ⟨x, x1, x2, x3⟩ := trod_av fuel d e cs' y.1 y.2 o3 hy
          obtain ⟨c1, c2⟩ := cells_stand hc
          obtain ⟨c3, c4⟩ := c2 (by omega)
          refine ⟨.ref x, .inr ⟨x, rfl, x1, x3⟩, ?_, by simpa [AV.size] using o1.symm⟩
          simp only [CR]
          exact ⟨a, cs', rfl, c3, mem0_S w _, x2, c4⟩
      case slice e =>
        simp only [Bool.and_eq_true, beq_iff_eq, bne_iff_ne, ne_eq] at ho
        obtain ⟨⟨o1, o2⟩, o3⟩ := ho
        rcases DataW.trod_slice hu h with ⟨rfl, _⟩ | ⟨a, len, cap, elems, rest, n, hn, rfl, _, _, hlc, hcm, hel, hall, _⟩
        · exact ⟨.slice [], ⟨[], rfl, by simp, by simp⟩, by simp [CR], by simpa [AV.size] using o1.symm⟩
        · obtain rfl := Nat.succ.inj hn
          obtain ⟨xs, g1, g2⟩ := choose_row len (fun i x => Fits P d e x ∧ x.size = P.cellsOf e ∧ ∃ cs', CR (mem0 w) x cs' ∧ w.cells? 0 (a.add (i * P.cellsOf e)) (P.cellsOf e) = some cs') fun i hi => by
            have h1 := hall i hi
            have h2 : elems[i]? = some elems[i] := List.getElem?_eq_getElem (by omega)
            rw [h2] at h1
            simp only [Option.bind_eq_some_iff] at h1
            obtain ⟨cs', k1, k2⟩ := h1
            obtain ⟨x, x1, x2, x3⟩ := trod_av fuel d e cs' _ _ o3 k2
            exact ⟨x, x1, x3, cs', x2, k1⟩
          refine ⟨.slice xs, ⟨xs, rfl, by omega, fun y hy => ?_⟩, ?_, by simpa [AV.size] using o1.symm⟩
          · obtain ⟨i, hi⟩ := List.mem_iff_getElem?.1 hy
            exact ⟨(g2 i y hi).1, (g2 i y hi).2.1⟩
          · simp only [CR]
            refine ⟨some a, cap, by rw [g1], by omega, ?_⟩
            by_cases h0 : len = 0
            · left; exact List.eq_nil_of_length_eq_zero (by omega)
            · right
              have hsp : a.spot = none := by
                obtain ⟨_, _, cs', _, k⟩ := g2 0 xs[0] (List.getElem?_eq_getElem (by omega))
                rw [Nat.zero_mul, show a.add 0 = a by simp [Addr.add]] at k
                exact ((cells_stand k).2 (by omega)).1
              refine ⟨a, P.cellsOf e, rfl, hsp, mem0_S w _, CRrow_iff.2 fun i x hx => ?_⟩
              obtain ⟨_, k0, cs', k1, k2⟩ := g2 i x hx
              obtain ⟨k3, k4⟩ := cells_stand k2
              refine ⟨cs', k1, k3, ?_⟩
              have := (k4 (by omega)).2
              rw [Addr.add_spot hsp] at this
              exact this
      case struct fs =>
        simp only [Bool.and_eq_true, beq_iff_eq] at ho
        obtain ⟨o1, o2⟩ := ho
        obtain ⟨ys, n, hn, _, hcl, hyl, hget⟩ := DataW.trod_struct hu h
        obtain rfl := Nat.succ.inj hn
        obtain ⟨xs, g1, g2⟩ := choose_row fs.toList.length (fun i x => ∀ f : Field, fs.toList[i]? = some f → Fits P d f.type x ∧ x.size = P.cellsOf f.type ∧ CR (mem0 w) x ((cs.drop f.offset).take (P.cellsOf f.type))) fun i hi => by
          have hf : fs.toList[i]? = some fs.toList[i] := List.getElem?_eq_getElem hi
          have hf' : fs[i]? = some fs.toList[i] := by rw [← hf]; simp
          have h1 := hget i _ hf'
          have hi2 : i < ys.length := by rw [hyl]; simpa using hi
          have h2 : ys[i]? = some ys[i] := List.getElem?_eq_getElem hi2
          rw [h2] at h1
          have o3 := List.all_eq_true.1 o2 _ (List.getElem_mem hi)
          obtain ⟨x, x1, x2, x3⟩ := trod_av fuel d _ _ _ _ o3 h1
          refine ⟨x, fun f hf2 => ?_⟩
          rw [hf] at hf2
          obtain rfl := Option.some.inj hf2
          exact ⟨x1, x3, x2⟩
        obtain ⟨q1, q2⟩ := CRs_of_parts (m := mem0 w) P fs.toList xs 0 _ cs o1 g1 hcl fun i f y hf hy => ⟨(g2 i y hy f hf).2.2, (g2 i y hy f hf).2.1⟩
        refine ⟨.agg xs, ⟨xs, rfl, g1, fun i f y hf hy => (g2 i y hy f hf).1⟩, ?_, by simpa [AV.size] using q2⟩
        simp only [CR]
        simpa using q1
      case array n e =>
        simp only [Bool.and_eq_true, beq_iff_eq] at ho
        obtain ⟨o1, o3⟩ := ho
        unfold DataW.trod at h
        rw [hu] at h
        have hex : cs.length = P.cellsOf t ∧ ∃ ys, (List.range n).mapM (fun i => DataW.trod enc P w 0 spare true fuel e ((cs.drop (i * P.cellsOf e)).take (P.cellsOf e))) = some ys := by
          split at h <;> simp_all
          obtain ⟨hl, ys, hy, _⟩ := h
          exact ⟨ys, hy⟩
        obtain ⟨hcl, ys, hys⟩ := hex
        obtain ⟨_, y2⟩ := mapM_get _ _ _ hys
        obtain ⟨xs, g1, g2⟩ := choose_row n (fun i x => Fits P d e x ∧ x.size = P.cellsOf e ∧ CR (mem0 w) x ((cs.drop (i * P.cellsOf e)).take (P.cellsOf e))) fun i hi => by
          obtain ⟨y, _, k2⟩ := y2 i i (by rw [List.getElem?_range hi])
          obtain ⟨x, x1, x2, x3⟩ := trod_av fuel d e _ y.1 y.2 o3 k2
          exact ⟨x, x1, x3, x2⟩
        obtain ⟨q1, q2⟩ := CRs_of_arr (m := mem0 w) (P.cellsOf e) xs 0 cs (by rw [hcl, ← o1, g1]; simp) fun i y hy => by
          rw [Nat.zero_add]; exact ⟨(g2 i y hy).2.2, (g2 i y hy).2.1⟩
        refine ⟨.agg xs, ⟨xs, rfl, g1, fun y hy => ?_⟩, ?_, by simpa [AV.size, g1, o1] using q2⟩
        · obtain ⟨i, hi⟩ := List.mem_iff_getElem?.1 hy
          exact (g2 i y hi).1
        · simp only [CR]
          simpa using q1

/-- An argument reads as a value of its type. -/
theorem arg_av {H : Type} {enc : TypeId × Value → H} {P : Program} {w : World} {spare : Nat → Bool} {d : Nat} {t : TypeId} {v : Value} {dd : DataW H} {ps : List MemPlace} {r : Reach} {b0 : Nat} (ho : okT P d t = true)
    (hval : Value.okWide P w r b0 t v) (h : DataW.Trod enc P w 0 spare true t v dd ps) : ∃ x, Fits P d t x ∧ VR1 (mem0 w) x v ∧ noTup x = true := by
  obtain ⟨fuel, h⟩ := h
  obtain ⟨x, h1, h2, h3⟩ := trod_av fuel d t _ dd ps ho h
  refine ⟨x, h1, ?_, ?_⟩
  · cases d with
    | zero => simp [okT] at ho
    | succ d =>
      unfold okT at ho
      unfold Fits at h1
      cases hu : P.underlying t with
      | none => rw [hu] at ho; cases ho
      | some td =>
        rw [hu] at h1
        cases td <;> simp only at h1 <;> try exact h1.elim
        case bool => obtain ⟨b, rfl⟩ := h1; obtain ⟨n, rfl⟩ := Go.WideShapes.okWide_bool hu hval; simpa [VR1, Value.cells] using h2
        case int => obtain ⟨b, rfl, _⟩ := h1; obtain ⟨n, rfl⟩ := Go.WideShapes.okWide_int hu hval; simpa [VR1, Value.cells] using h2
        case string => obtain ⟨b, rfl, _⟩ := h1; obtain ⟨n, rfl⟩ := Go.WideShapes.okWide_string hu hval; simpa [VR1, Value.cells] using h2
        case pointer =>
          obtain ⟨a, rfl⟩ := Go.WideShapes.okWide_pointer hu hval
          rcases h1 with rfl | ⟨y, rfl, _⟩ <;> simpa [VR1, Value.cells] using h2
        case slice =>
          obtain ⟨a, l, k, rfl⟩ := Go.WideShapes.okWide_slice hu hval
          obtain ⟨xs, rfl, _⟩ := h1
          simpa [VR1, Value.cells] using h2
        case struct =>
          obtain ⟨xs, rfl, _⟩ := h1
          unfold Value.okWide at hval
          rw [hu] at hval
          obtain ⟨cs, rfl, _⟩ := hval
          simp only [CR, Value.cells] at h2
          exact ⟨cs.toList, by simp, h2⟩
        case array =>
          obtain ⟨xs, rfl, _⟩ := h1
          unfold Value.okWide at hval
          rw [hu] at hval
          obtain ⟨cs, rfl, _⟩ := hval
          simp only [CR, Value.cells] at h2
          exact ⟨cs.toList, by simp, h2⟩
  · cases x <;> try rfl
    simp [CR] at h2

/-- A law that is true of these arguments. -/
theorem ACall.law {P : Program} {f : FuncId} {args : List AV} {vals : List Value} (h : ACall P f args [] (Is (.bool true) [])) (w : World) (hv : VRs (mem0 w) args vals) :
    Calls P f vals.toArray w fun e w' => e = .returned (.bool true) ∧ Go.RowKit.Below w.heap.size w w' := by
  refine (h.2 w [] (fun _ => False) (fun b => w.heap.size ≤ b) vals (fun _ h => h.elim) (fun _ h => h) ?_ hv).mono ?_
  · refine ⟨rfl, ?_, ?_, ?_, ?_, ?_, ?_, ?_, ?_⟩ <;> intros <;> simp_all
  · rintro e w' ⟨v, β', r, L', rfl, ⟨rfl, rfl⟩, _, _, h4, h5⟩
    have hb : v = .bool true := by simpa [VR, VR1, CR] using h5
    subst hb
    exact ⟨rfl, h4.os, h4.tape, h4.output, h4.size, fun k hk => h4.block k hk (by omega)⟩

attribute [irreducible] Fits

end Go.Proofs.Ytpneikbihcoaaab.Vm

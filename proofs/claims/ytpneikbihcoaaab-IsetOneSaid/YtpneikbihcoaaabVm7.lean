/- What an operation gives is what the machine does: what is equal, and what is reckoned. -/
import Derived.Test.YtpneikbihcoaaabVm6
import Derived.Laws.StructEq
namespace Go.Proofs.Ytpneikbihcoaaab.Vm
set_option linter.unusedVariables false
set_option linter.unusedSimpArgs false

variable {c : Ctx} {σ : AState} {a : Act} {w : World} {β : List PO}

/-! ### Equal values -/

theorem run_equalIn_plain (P : Program) (w : World) (m : Mem) : ∀ (d : Nat),
    (∀ (D : Nat) (t : TypeId) (x y : AV) (v u : Value) (b : Bool), d ≤ D → plainFit P d t x = true → plainFit P d t y = true → VR m x v → VR m y u → eqAV x y = some b →
      (Op.equalIn D t v u).run P w = .ok b w) ∧
    (∀ (D : Nat) (fs : List Field) (xs ys xs0 ys0 : List AV) (cx cy : List Value) (off : Nat) (b : Bool), d ≤ D → plainFitL P d fs xs off = true → plainFitL P d fs ys off = true →
      CRs m (xs0 ++ xs) cx → CRs m (ys0 ++ ys) cy → AV.sizes xs0 = off → AV.sizes ys0 = off → eqAVs xs ys = some b → (Op.eqFields D cx.toArray cy.toArray fs).run P w = .ok b w)
  | 0 => ⟨fun D t x y v u b _ h => by simp [plainFit] at h, fun D fs xs ys xs0 ys0 cx cy off b _ h => by simp [plainFitL] at h⟩
  | d + 1 => by
    obtain ⟨ih1, ih2⟩ := run_equalIn_plain P w m d
    refine ⟨fun D t x y v u b hD hx hy hv hu he => ?_, fun D fs xs ys xs0 ys0 cx cy off b hD hx hy hcx hcy h1 h2 he => ?_⟩
    · obtain ⟨D, rfl⟩ : ∃ D', D = D' + 1 := ⟨D - 1, by omega⟩
      unfold plainFit at hx hy
      cases hund : P.underlying t with
      | none => rw [hund] at hx; simp at hx
      | some k =>
        rw [hund] at hx hy
        cases k <;> cases x <;> simp only [Bool.false_eq_true] at hx <;> cases y <;> simp only [Bool.false_eq_true] at hy
        case bool.bool.bool p q =>
          obtain rfl := hv.bool
          obtain rfl := hu.bool
          simp only [eqAV, Option.some.injEq] at he
          subst he
          exact run_equalIn_bool w D t p q hund
        case int.int.int k0 k1 p k2 q =>
          obtain rfl := hv.int
          obtain rfl := hu.int
          simp only [eqAV] at he
          split at he
          · rename_i hk
            subst hk
            simp only [Option.some.injEq] at he
            subst he
            simp [Op.equalIn, run_und hund]
          · cases he
        case string.str.str p q =>
          obtain rfl := hv.str
          obtain rfl := hu.str
          simp only [eqAV, Option.some.injEq] at he
          subst he
          rw [run_equalIn_string w D t p q hund]
        case struct.agg.agg fs xs ys =>
          obtain ⟨cx, rfl, hcx⟩ := hv.agg
          obtain ⟨cy, rfl, hcy⟩ := hu.agg
          simp only [Bool.and_eq_true, Bool.not_eq_true'] at hx hy
          simp only [eqAV] at he
          have hf : P.fieldsOf t = fs := by unfold Program.fieldsOf; rw [hund]
          rw [run_equalIn_struct w D t _ _ (by rw [hf]; exact hund) hx.1, hf]
          exact ih2 D fs.toList xs ys [] [] cx cy 0 b (by omega) hx.2 hy.2 hcx hcy rfl rfl he
        case array.agg.agg n e xs ys =>
          obtain ⟨cx, rfl, hcx⟩ := hv.agg
          obtain ⟨cy, rfl, hcy⟩ := hu.agg
          simp only [Bool.and_eq_true, beq_iff_eq, bne_iff_ne, ne_eq] at hx hy
          obtain ⟨⟨hn0, hxn⟩, hxa⟩ := hx
          obtain ⟨⟨_, hyn⟩, hya⟩ := hy
          simp only [eqAV] at he
          have key : ∀ (xs ys xs0 ys0 : List AV) (k : Nat) (b : Bool), (∀ x ∈ xs, (cellsT P e == x.size && x.size != 0 && x.shaped (aggT P e) && plainFit P d e x) = true) →
              (∀ x ∈ ys, (cellsT P e == x.size && x.size != 0 && x.shaped (aggT P e) && plainFit P d e x) = true) →
              CRs m (xs0 ++ xs) cx → CRs m (ys0 ++ ys) cy → AV.sizes xs0 = k * P.cellsOf e → AV.sizes ys0 = k * P.cellsOf e → eqAVs xs ys = some b →
              (Op.eqItems D e (P.cellsOf e) cx.toArray cy.toArray (List.range' k xs.length)).run P w = .ok b w := by
            intro xs
            induction xs with
            | nil =>
              intro ys xs0 ys0 k b _ _ _ _ _ _ he
              cases ys with
              | nil => simp [eqAVs] at he; subst he; simp [Op.eqItems]
              | cons y ys => simp [eqAVs] at he
            | cons x xs ih =>
              intro ys xs0 ys0 k b hxs hys hcx hcy h1 h2 he
              cases ys with
              | nil => simp [eqAVs] at he
              | cons y ys =>
                simp only [eqAVs, Option.bind_eq_some_iff, Option.map_eq_some_iff] at he
                obtain ⟨b1, he1, b2, he2, rfl⟩ := he
                have hx0 := hxs x (by simp)
                have hy0 := hys y (by simp)
                simp only [Bool.and_eq_true, beq_iff_eq, bne_iff_ne, ne_eq] at hx0 hy0
                obtain ⟨⟨⟨x1, x2⟩, x3⟩, x4⟩ := hx0
                obtain ⟨⟨⟨y1, y2⟩, y3⟩, y4⟩ := hy0
                obtain ⟨z1, z2, z3⟩ := cellsT_spec (by rw [x1]; exact x2 : cellsT P e ≠ 0)
                have gx : (xs0 ++ x :: xs)[xs0.length]? = some x := by simp
                have gy : (ys0 ++ y :: ys)[ys0.length]? = some y := by simp
                obtain ⟨v, p1, p2⟩ := run_part (P := P) (w := w) hcx gx x1.symm z1.symm z3 z2 x3
                obtain ⟨u, q1, q2⟩ := run_part (P := P) (w := w) hcy gy y1.symm z1.symm z3 z2 y3
                rw [List.take_left' rfl] at p1 q1
                rw [h1] at p1
                rw [h2] at q1
                have r1 := ih1 D e x y v u b1 (by omega) x4 y4 p2 q2 he1
                simp only [List.length_cons, List.range'_succ, Op.eqItems, Sem.run_bind, p1, q1, r1, Result.andThen_ok]
                cases b1 with
                | false => simp
                | true =>
                  simp only [Bool.not_true, Bool.false_eq_true, if_false, Bool.true_and]
                  refine ih ys (xs0 ++ [x]) (ys0 ++ [y]) (k + 1) b2 (fun z hz => hxs z (by simp [hz])) (fun z hz => hys z (by simp [hz])) (by simpa using hcx) (by simpa using hcy) ?_ ?_ he2
                  · rw [AV.sizes_append, h1]; simp only [AV.sizes, Nat.add_mul]; rw [← x1, z1]; omega
                  · rw [AV.sizes_append, h2]; simp only [AV.sizes, Nat.add_mul]; rw [← y1, z1]; omega
          obtain ⟨x, hx0⟩ : ∃ x, x ∈ xs := by
            cases xs with
            | nil => simp at hxn; omega
            | cons x xs => exact ⟨x, by simp⟩
          have hx1 := List.all_eq_true.1 hxa x hx0
          simp only [Bool.and_eq_true, beq_iff_eq, bne_iff_ne, ne_eq] at hx1
          obtain ⟨⟨⟨x1, x2⟩, _⟩, _⟩ := hx1
          obtain ⟨z1, z2, z3⟩ := cellsT_spec (by rw [x1]; exact x2 : cellsT P e ≠ 0)
          obtain ⟨inf, hi⟩ := Option.isSome_iff_exists.1 z3
          rw [run_equalIn_array w D _ _ hund hi, List.range_eq_range', ← hxn]
          exact key xs ys [] [] 0 b (fun z hz => List.all_eq_true.1 hxa z hz) (fun z hz => List.all_eq_true.1 hya z hz) hcx hcy (by simp [AV.sizes]) (by simp [AV.sizes]) he
    · unfold plainFitL at hx hy
      cases fs with
      | nil =>
        cases xs <;> simp only [Bool.false_eq_true] at hx
        cases ys <;> simp only [Bool.false_eq_true] at hy
        simp [eqAVs] at he
        subst he
        simp [Op.eqFields]
      | cons f fs =>
        cases xs <;> simp only [Bool.false_eq_true] at hx
        cases ys <;> simp only [Bool.false_eq_true] at hy
        rename_i x xs y ys
        simp only [Bool.and_eq_true, beq_iff_eq, bne_iff_ne, ne_eq] at hx hy
        obtain ⟨⟨⟨⟨⟨⟨n1, x1⟩, x2⟩, x3⟩, x4⟩, x5⟩, x6⟩ := hx
        obtain ⟨⟨⟨⟨⟨⟨_, y1⟩, y2⟩, y3⟩, y4⟩, y5⟩, y6⟩ := hy
        simp only [eqAVs, Option.bind_eq_some_iff, Option.map_eq_some_iff] at he
        obtain ⟨b1, he1, b2, he2, rfl⟩ := he
        obtain ⟨z1, z2, z3⟩ := cellsT_spec (by rw [x2]; exact x3 : cellsT P f.type ≠ 0)
        have gx : (xs0 ++ x :: xs)[xs0.length]? = some x := by simp
        have gy : (ys0 ++ y :: ys)[ys0.length]? = some y := by simp
        obtain ⟨v, p1, p2⟩ := run_part (P := P) (w := w) hcx gx x2.symm z1.symm z3 z2 x4
        obtain ⟨u, q1, q2⟩ := run_part (P := P) (w := w) hcy gy y2.symm z1.symm z3 z2 y4
        rw [List.take_left' rfl] at p1 q1
        rw [h1, ← x1] at p1
        rw [h2, ← y1] at q1
        have r1 := ih1 D f.type x y v u b1 (by omega) x5 y5 p2 q2 he1
        simp only [Op.eqFields, ne_eq, n1, not_false_eq_true, if_true, Sem.run_bind, p1, q1, r1, Result.andThen_ok]
        cases b1 with
        | false => simp
        | true =>
          simp only [Bool.not_true, Bool.false_eq_true, if_false, Bool.true_and]
          have hs : y.size = x.size := by rw [← x2, ← y2]
          exact ih2 D fs xs ys (xs0 ++ [x]) (ys0 ++ [y]) cx cy (off + x.size) b2 (by omega) x6 (by rw [← hs]; exact y6) (by simpa using hcx) (by simpa using hcy)
            (by rw [AV.sizes_append, h1]; simp [AV.sizes]) (by rw [AV.sizes_append, h2]; simp [AV.sizes, hs]) he2

end Go.Proofs.Ytpneikbihcoaaab.Vm

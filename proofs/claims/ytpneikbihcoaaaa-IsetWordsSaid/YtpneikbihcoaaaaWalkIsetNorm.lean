/- The law of Norm, walked. -/
import Derived.Test.YtpneikbihcoaaaaIset14
import Derived.Test.YtpneikbihcoaaaaSet2
open Go Go.Proofs Go.Proofs.Ytpneikbihcoaaaa
namespace Go.Proofs.Ytpneikbihcoaaaa.Vm
set_option linter.unusedVariables false
set_option linter.unusedSimpArgs false

theorem topR_most {w : Int} (h : okW w = true) : topR w = mostS w := by
  unfold okW at h
  simp at h
  rcases h with rfl | rfl <;> rfl
theorem normW_ok {w : Int} {l : List Sp} (h : okW w = true) : normW w l = normS (mostS w) l := by rw [normW, if_pos h]
theorem normW_bad {w : Int} {l : List Sp} (h : okW w = false) : normW w l = [] := by rw [normW, if_neg (by simp [h])]

theorem right_same {w : Int} {l : List Sp} : (okW w && sameS (normW w l) l) = (okW w && rightS (topR w) l) := by
  cases h : okW w with
  | false => rfl
  | true =>
    simp only [Bool.true_and]
    rw [normW_ok h, topR_most h, Bool.eq_iff_iff, right_iff]
    simp only [sameS, decide_eq_true_eq]
    exact ⟨fun e => e ▸ norm_form _ _, norm_fix⟩

theorem has_norm {w : Int} {l : List Sp} (h : okW w = true) (x : Int) : hasS (normW w l) x = (decide (x ≤ topR w) && hasS l x) := by
  rw [normW_ok h, topR_most h, Bool.eq_iff_iff, Bool.and_eq_true, hasS_iff, hasS_iff, norm_mem, decide_eq_true_eq, And.comm]

theorem right_norm {w : Int} {l : List Sp} (h : okW w = true) : (okW w && rightS (topR w) (normW w l)) = true := by
  rw [h, Bool.true_and, right_iff, normW_ok h, topR_most h]
  exact norm_form _ _

theorem u64L_get {E : List Int} {i : Nat} (h : i < E.length) : (u64L E)[i]? = some (.int .u64 (E.getD i 0)) := by
  simp [u64L, h, List.getD]

set_option maxRecDepth 8000 in
set_option maxHeartbeats 4000000 in
theorem norm_law (l : List Sp) (hl : OkS l) (n w : Int) (L : List AObj) (hw : WFL L) :
    ACall Try.prog 9 [.slice (spL l), .int .u64 n, .int .i64 w] L (Is (.bool true) L) := by
  refine ACall.walk (by kernel_rfl) Try.func9 rfl rfl rfl rfl [] (by kernel_rfl) kp9 200 fun c hP hn hL => ?_
  simp [Try.f9]
  refine AOps.callIs hP hn rfl [] 200 (awake15_run _ (by simp [hw, hw.append_closed])) (by simp) (by simp <;> rfl) (by kernel_rfl) ?_
  by_cases g1 : (100 : Int) < l.length
  · simp [g1]
    refine AOps.callIs hP hn rfl [] 200 (awake15_run _ (by simp [hw, hw.append_closed])) (by simp) (by simp <;> rfl) (by kernel_rfl) ?_
    simp
    exact AGo.ret_is hP Try.func9 hL hw (by simp [Try.f9] <;> rfl) rfl rfl rfl
  have l1 := normW_len w l
  have b1 : l.length * 16 ≤ 35184372088832 := by omega
  have b2 : l.length < 35184372088832 := by omega
  rcases Classical.em (l = []) with e | e
  · have e' : (l = []) = True := eq_true e
    simp [g1, b1, b2, e']
    refine AOps.freeze L.length (by simp; rfl) ?_
    simp [frzL]
    refine AOps.callIs hP hn rfl [] 200 (norm_is l (by omega) hl w _ (by simp [hw, hw.append_closed])) (by simp) (by simp [e] <;> rfl) (by kernel_rfl) ?_
    simp
    refine AOps.callIs hP hn rfl [] 200 (top_run w _ (by simp [hw, hw.append_closed])) (by simp) (by simp <;> rfl) (by kernel_rfl) ?_
    simp
    refine AOps.callIs hP hn rfl [] 200 (right_run l (by omega) hl w _ (by simp [hw, hw.append_closed])) (by simp) (by simp <;> rfl) (by kernel_rfl) ?_
    rw [right_same]
    simp
    refine AOps.callIs hP hn rfl [] 200 (rright_run l (by omega) hl w _ (by simp [hw, hw.append_closed])) (by simp) (by simp <;> rfl) (by kernel_rfl) ?_
    by_cases h0 : okW w = true
    · have hG := has_norm (l := l) h0
      have hr1 := right_norm (l := l) h0
      have hfix : rightS (topR w) l = true → sameS (normW w l) l = true := fun h => by
        rw [normW_ok h0]
        rw [topR_most h0, right_iff] at h
        exact same_eq (norm_fix h)
      have hGo : OkS (normW w l) := okS_norm hl
      simp [h0]
      generalize normW w l = G at *
      refine AOps.callIs hP hn rfl [] 200 (edges_run l G (by omega) (by omega) n _ (by simp [hw, hw.append_closed])) (by simp) (by simp <;> rfl) (by kernel_rfl) ?_
      have hEl : (edgesS l G n).length = 5 + 4 * l.length + 4 * G.length := by
        rw [edgesS, List.length_append, List.length_append, edges_len, edges_len]; simp
      generalize edgesS l G n = E at *
      simp
      refine AGo.keep [0, 2, 7, 8, 45, 46, 47] ?_
      simp
      refine AGo.trimTo (M := []) (N := [_]) hL hw (by simp [AV.idsL, AV.ids]) (by simp [AV.ids]) ?_
      refine AGo.loopE (α := Nat) (fun i => i ≤ E.length) (fun i => i = E.length) (fun i => E.length - i) [0, 2, 7, 8, 45, 46, 47]
        (fun i => [.slice (spL l), .int .i64 w, .slice (spL G), .int .u64 (topR w), .slice (u64L E), .int .i64 E.length, .int .i64 i])
        (fun i => L) 0 (by kernel_rfl) (by kernel_rfl) (by kernel_rfl) (by simp) (by simp) (by simp) ?_ ?_
      · intro i y z hR hi ih hex
        refine AGo.go hP hn rfl [100000] kp9 200 (hR.ok _) ?_
        by_cases hlt : i < E.length
        · have hlt2 : (i : Int) < E.length := by omega
          have hg := u64L_get hlt
          generalize E.getD i 0 = x at *
          have w1 : IntKind.i64.wrap ((i : Int) + 1) = ((i + 1 : Nat) : Int) := by rw [wrap_id (by omega) (by omega)]; simp
          have cG : ∀ L, WFL L → ACall Try.prog 38 [.slice (spL G), .int .u64 x] L (Is (.bool (decide (x ≤ topR w) && hasS l x)) L) := fun L hw => by
            rw [← hG]; exact rhas_run G (by omega) x L hw
          have cL : ∀ L, WFL L → ACall Try.prog 38 [.slice (spL l), .int .u64 x] L (Is (.bool (hasS l x)) L) := fun L hw => rhas_run l (by omega) x L hw
          have cH : ∀ L, WFL L → ACall Try.prog 39 [.slice (spL l), .int .u64 x] L (Is (.bool (hasS l x)) L) := fun L hw => has_run l (by omega) x L hw
          generalize hasS l x = b at *
          simp [-wrap_i64, hlt2, hg]
          refine AOps.callIs hP hn rfl [100000] 200 (cG _ (by simp [hw, hw.append_closed])) (by simp) (by simp <;> rfl) (todoOk_mono _ _ (by simp only [todoOk, hR.y, hR.z, hR.k, Bool.and_self, Bool.and_true] <;> kernel_rfl)) ?_
          by_cases hx : x ≤ topR w
          · simp [-wrap_i64, hx]
            refine AOps.callIs hP hn rfl [100000] 200 (cL _ (by simp [hw, hw.append_closed])) (by simp) (by simp <;> rfl) (todoOk_mono _ _ (by simp only [todoOk, hR.y, hR.z, hR.k, Bool.and_self, Bool.and_true] <;> kernel_rfl)) ?_
            cases b <;> simp [-wrap_i64] <;>
            refine AOps.callIs hP hn rfl [100000] 200 (cH _ (by simp [hw, hw.append_closed])) (by simp) (by simp <;> rfl) (todoOk_mono _ _ (by simp only [todoOk, hR.y, hR.z, hR.k, Bool.and_self, Bool.and_true] <;> kernel_rfl)) ?_ <;>
            simp [-wrap_i64] <;>
            refine AOps.callIs hP hn rfl [100000] 200 (cL _ (by simp [hw, hw.append_closed])) (by simp) (by simp <;> rfl) (todoOk_mono _ _ (by simp only [todoOk, hR.y, hR.z, hR.k, Bool.and_self, Bool.and_true] <;> kernel_rfl)) ?_ <;>
            simp [-wrap_i64, w1] <;>
            exact AGo.again (ih (i + 1) (by omega) (by omega)) (by simp) (by simp)
          · simp [-wrap_i64, hx]
            refine AOps.callIs hP hn rfl [100000] 200 (cH _ (by simp [hw, hw.append_closed])) (by simp) (by simp <;> rfl) (todoOk_mono _ _ (by simp only [todoOk, hR.y, hR.z, hR.k, Bool.and_self, Bool.and_true] <;> kernel_rfl)) ?_
            simp [-wrap_i64]
            refine AOps.callIs hP hn rfl [100000] 200 (cL _ (by simp [hw, hw.append_closed])) (by simp) (by simp <;> rfl) (todoOk_mono _ _ (by simp only [todoOk, hR.y, hR.z, hR.k, Bool.and_self, Bool.and_true] <;> kernel_rfl)) ?_
            simp [-wrap_i64, w1]
            exact AGo.again (ih (i + 1) (by omega) (by omega)) (by simp) (by simp)
        · have hil : i = E.length := by omega
          subst hil
          simp
          exact AGo.again (hex _ rfl) (by simp) (by simp)
      rintro i rfl
      refine AGo.go hP hn rfl [] kp9 200 (by kernel_rfl) ?_
      simp
      refine AOps.callIs hP hn rfl [] 200 (rright_run G (by omega) hGo w _ (by simp [hw, hw.append_closed])) (by simp) (by simp <;> rfl) (by kernel_rfl) ?_
      rw [hr1]
      simp
      refine AOps.callIs hP hn rfl [] 200 (rright_run l (by omega) hl w _ (by simp [hw, hw.append_closed])) (by simp) (by simp <;> rfl) (by kernel_rfl) ?_
      by_cases hr : rightS (topR w) l = true
      · simp [h0, hr]
        refine AOps.callIs hP hn rfl [] 200 (same_run G l (by omega) _ (by simp [hw, hw.append_closed])) (by simp) (by simp <;> rfl) (by kernel_rfl) ?_
        rw [hfix hr]
        simp
        exact AGo.ret_is hP Try.func9 hL hw (by simp [Try.f9] <;> rfl) rfl rfl rfl
      · simp [h0, hr]
        exact AGo.ret_is hP Try.func9 hL hw (by simp [Try.f9] <;> rfl) rfl rfl rfl
    · have h0' : okW w = false := by simpa using h0
      simp [h0', normW_bad h0']
      exact AGo.ret_isM hP Try.func9 hL hw (by simp [Try.f9] <;> rfl) rfl rfl rfl
  · simp [g1, b1, b2, e]
    refine AOps.freeze L.length (by simp; rfl) ?_
    simp [frzL]
    refine AOps.callIs hP hn rfl [] 200 (norm_is l (by omega) hl w _ (by simp [hw, hw.append_closed])) (by simp) (by simp <;> rfl) (by kernel_rfl) ?_
    simp
    refine AOps.callIs hP hn rfl [] 200 (top_run w _ (by simp [hw, hw.append_closed])) (by simp) (by simp <;> rfl) (by kernel_rfl) ?_
    simp
    refine AOps.callIs hP hn rfl [] 200 (right_run l (by omega) hl w _ (by simp [hw, hw.append_closed])) (by simp) (by simp <;> rfl) (by kernel_rfl) ?_
    rw [right_same]
    simp
    refine AOps.callIs hP hn rfl [] 200 (rright_run l (by omega) hl w _ (by simp [hw, hw.append_closed])) (by simp) (by simp <;> rfl) (by kernel_rfl) ?_
    by_cases h0 : okW w = true
    · have hG := has_norm (l := l) h0
      have hr1 := right_norm (l := l) h0
      have hfix : rightS (topR w) l = true → sameS (normW w l) l = true := fun h => by
        rw [normW_ok h0]
        rw [topR_most h0, right_iff] at h
        exact same_eq (norm_fix h)
      have hGo : OkS (normW w l) := okS_norm hl
      simp [h0]
      generalize normW w l = G at *
      refine AOps.callIs hP hn rfl [] 200 (edges_run l G (by omega) (by omega) n _ (by simp [hw, hw.append_closed])) (by simp) (by simp <;> rfl) (by kernel_rfl) ?_
      have hEl : (edgesS l G n).length = 5 + 4 * l.length + 4 * G.length := by
        rw [edgesS, List.length_append, List.length_append, edges_len, edges_len]; simp
      generalize edgesS l G n = E at *
      simp
      refine AGo.keep [0, 2, 7, 8, 45, 46, 47] ?_
      simp
      refine AGo.trimTo (M := []) (N := [_]) hL hw (by simp [AV.idsL, AV.ids]) (by simp [AV.ids]) ?_
      refine AGo.loopE (α := Nat) (fun i => i ≤ E.length) (fun i => i = E.length) (fun i => E.length - i) [0, 2, 7, 8, 45, 46, 47]
        (fun i => [.slice (spL l), .int .i64 w, .slice (spL G), .int .u64 (topR w), .slice (u64L E), .int .i64 E.length, .int .i64 i])
        (fun i => L) 0 (by kernel_rfl) (by kernel_rfl) (by kernel_rfl) (by simp) (by simp) (by simp) ?_ ?_
      · intro i y z hR hi ih hex
        refine AGo.go hP hn rfl [100000] kp9 200 (hR.ok _) ?_
        by_cases hlt : i < E.length
        · have hlt2 : (i : Int) < E.length := by omega
          have hg := u64L_get hlt
          generalize E.getD i 0 = x at *
          have w1 : IntKind.i64.wrap ((i : Int) + 1) = ((i + 1 : Nat) : Int) := by rw [wrap_id (by omega) (by omega)]; simp
          have cG : ∀ L, WFL L → ACall Try.prog 38 [.slice (spL G), .int .u64 x] L (Is (.bool (decide (x ≤ topR w) && hasS l x)) L) := fun L hw => by
            rw [← hG]; exact rhas_run G (by omega) x L hw
          have cL : ∀ L, WFL L → ACall Try.prog 38 [.slice (spL l), .int .u64 x] L (Is (.bool (hasS l x)) L) := fun L hw => rhas_run l (by omega) x L hw
          have cH : ∀ L, WFL L → ACall Try.prog 39 [.slice (spL l), .int .u64 x] L (Is (.bool (hasS l x)) L) := fun L hw => has_run l (by omega) x L hw
          generalize hasS l x = b at *
          simp [-wrap_i64, hlt2, hg]
          refine AOps.callIs hP hn rfl [100000] 200 (cG _ (by simp [hw, hw.append_closed])) (by simp) (by simp <;> rfl) (todoOk_mono _ _ (by simp only [todoOk, hR.y, hR.z, hR.k, Bool.and_self, Bool.and_true] <;> kernel_rfl)) ?_
          by_cases hx : x ≤ topR w
          · simp [-wrap_i64, hx]
            refine AOps.callIs hP hn rfl [100000] 200 (cL _ (by simp [hw, hw.append_closed])) (by simp) (by simp <;> rfl) (todoOk_mono _ _ (by simp only [todoOk, hR.y, hR.z, hR.k, Bool.and_self, Bool.and_true] <;> kernel_rfl)) ?_
            cases b <;> simp [-wrap_i64] <;>
            refine AOps.callIs hP hn rfl [100000] 200 (cH _ (by simp [hw, hw.append_closed])) (by simp) (by simp <;> rfl) (todoOk_mono _ _ (by simp only [todoOk, hR.y, hR.z, hR.k, Bool.and_self, Bool.and_true] <;> kernel_rfl)) ?_ <;>
            simp [-wrap_i64] <;>
            refine AOps.callIs hP hn rfl [100000] 200 (cL _ (by simp [hw, hw.append_closed])) (by simp) (by simp <;> rfl) (todoOk_mono _ _ (by simp only [todoOk, hR.y, hR.z, hR.k, Bool.and_self, Bool.and_true] <;> kernel_rfl)) ?_ <;>
            simp [-wrap_i64, w1] <;>
            exact AGo.again (ih (i + 1) (by omega) (by omega)) (by simp) (by simp)
          · simp [-wrap_i64, hx]
            refine AOps.callIs hP hn rfl [100000] 200 (cH _ (by simp [hw, hw.append_closed])) (by simp) (by simp <;> rfl) (todoOk_mono _ _ (by simp only [todoOk, hR.y, hR.z, hR.k, Bool.and_self, Bool.and_true] <;> kernel_rfl)) ?_
            simp [-wrap_i64]
            refine AOps.callIs hP hn rfl [100000] 200 (cL _ (by simp [hw, hw.append_closed])) (by simp) (by simp <;> rfl) (todoOk_mono _ _ (by simp only [todoOk, hR.y, hR.z, hR.k, Bool.and_self, Bool.and_true] <;> kernel_rfl)) ?_
            simp [-wrap_i64, w1]
            exact AGo.again (ih (i + 1) (by omega) (by omega)) (by simp) (by simp)
        · have hil : i = E.length := by omega
          subst hil
          simp
          exact AGo.again (hex _ rfl) (by simp) (by simp)
      rintro i rfl
      refine AGo.go hP hn rfl [] kp9 200 (by kernel_rfl) ?_
      simp
      refine AOps.callIs hP hn rfl [] 200 (rright_run G (by omega) hGo w _ (by simp [hw, hw.append_closed])) (by simp) (by simp <;> rfl) (by kernel_rfl) ?_
      rw [hr1]
      simp
      refine AOps.callIs hP hn rfl [] 200 (rright_run l (by omega) hl w _ (by simp [hw, hw.append_closed])) (by simp) (by simp <;> rfl) (by kernel_rfl) ?_
      by_cases hr : rightS (topR w) l = true
      · simp [h0, hr]
        refine AOps.callIs hP hn rfl [] 200 (same_run G l (by omega) _ (by simp [hw, hw.append_closed])) (by simp) (by simp <;> rfl) (by kernel_rfl) ?_
        rw [hfix hr]
        simp
        exact AGo.ret_is hP Try.func9 hL hw (by simp [Try.f9] <;> rfl) rfl rfl rfl
      · simp [h0, hr]
        exact AGo.ret_is hP Try.func9 hL hw (by simp [Try.f9] <;> rfl) rfl rfl rfl
    · have h0' : okW w = false := by simpa using h0
      simp [h0', normW_bad h0']
      exact AGo.ret_isM hP Try.func9 hL hw (by simp [Try.f9] <;> rfl) rfl rfl rfl

end Go.Proofs.Ytpneikbihcoaaaa.Vm

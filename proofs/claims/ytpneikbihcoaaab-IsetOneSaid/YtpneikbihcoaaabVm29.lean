/- A loop whose code, and what comes behind it, is named. -/
import Derived.Test.YtpneikbihcoaaabVm28
namespace Go.Proofs.Ytpneikbihcoaaab.Vm
set_option linter.unusedVariables false
set_option linter.unusedSimpArgs false

variable {c : Ctx} {f : FuncId} {σ : AState} {R : AV → List AObj → Prop} {k : List Item}

theorem codeOk_mono (bad : List Nat) : ∀ x : Code, codeOk [] x = true → codeOk bad x = true
  | .region id ops true, h => by simp only [codeOk, List.contains_nil, Bool.false_or] at h; simp [codeOk, h]
  | .region id ops false, h => rfl
  | .seq a b, h => by simp only [codeOk, Bool.and_eq_true] at h ⊢; exact ⟨codeOk_mono bad a h.1, codeOk_mono bad b h.2⟩
  | .cond _ a b, h => by simp only [codeOk, Bool.and_eq_true] at h ⊢; exact ⟨codeOk_mono bad a h.1, codeOk_mono bad b h.2⟩
  | .block _ a, h => by simp only [codeOk] at h ⊢; exact codeOk_mono bad a h
  | .loop a, h => by simp only [codeOk] at h ⊢; exact codeOk_mono bad a h
  | .skip, h => rfl
  | .label _, h => rfl
  | .exit _, h => rfl
  | .ret, h => rfl
  | .scope .., h => rfl
  | .rangeFunc .., h => rfl
  | .goto .., h => rfl
  | .refuse .., h => rfl

theorem todoOk_mono (bad : List Nat) : ∀ k : List Item, todoOk [] k = true → todoOk bad k = true
  | [], h => rfl
  | .code c :: k, h => by simp only [todoOk, Bool.and_eq_true] at h ⊢; exact ⟨codeOk_mono bad c h.1, todoOk_mono bad k h.2⟩
  | .inLoop c :: k, h => by simp only [todoOk, Bool.and_eq_true] at h ⊢; exact ⟨codeOk_mono bad c h.1, todoOk_mono bad k h.2⟩
  | .inBlock j :: k, h => by simp only [todoOk] at h ⊢; exact todoOk_mono bad k h
  | .inScope c :: k, h => by simp only [todoOk] at h ⊢; exact todoOk_mono bad k h
  | .inRegion o t :: k, h => by simp only [todoOk] at h ⊢; exact todoOk_mono bad k h
  | .inRangeFunc l :: k, h => by simp only [todoOk] at h ⊢; exact todoOk_mono bad k h
  | .endRangeFunc l :: k, h => by simp only [todoOk] at h ⊢; exact todoOk_mono bad k h
  | .beginRound :: k, h => by simp only [todoOk] at h ⊢; exact todoOk_mono bad k h
  | .call d a r s :: k, h => by simp only [todoOk] at h ⊢; exact todoOk_mono bad k h
  | .extern r a :: k, h => by simp only [todoOk] at h ⊢; exact todoOk_mono bad k h

/-- A loop's round: its code known, the loop and what comes behind it named alone. -/
structure Round (c : Ctx) (f : FuncId) (k : List Item) (R : AV → List AObj → Prop) (id : Nat) (x : Code) (y z : Code) : Prop where
  x : codeOk [] x = true
  y : codeOk [] y = true
  z : codeOk [] z = true
  k : todoOk [] k = true

theorem Round.ok {id : Nat} {x y z : Code} (h : Round c f k R id x y z) (bad : List Nat) : todoOk bad (.code x :: .inLoop y :: .inBlock id :: .code z :: k) = true := by
  refine todoOk_mono bad _ ?_
  simp only [todoOk, h.x, h.y, h.z, h.k, Bool.and_self]

theorem Round.tail {id : Nat} {x y z : Code} (h : Round c f k R id x y z) (bad : List Nat) : todoOk bad (.inLoop y :: .inBlock id :: .code z :: k) = true := by
  refine todoOk_mono bad _ ?_
  simp only [todoOk, h.y, h.z, h.k, Bool.and_self]

theorem AGo.loopE {α : Type} {id : Nat} {x z0 : Code} (I E : α → Prop) (μ : α → Nat) (ps : List Nat) (V : α → List AV) (H : α → List AObj) (s0 : α)
    (hx : codeOk [] x = true) (hz : codeOk [] z0 = true) (hk : todoOk [] k = true) (h0 : ps.map σ.env = V s0) (hL : σ.L = H s0) (hI : I s0)
    (hstep : ∀ s y z, Round c f k R id x y z → I s → (∀ s', μ s' < μ s → I s' → AGo c f (.inLoop y :: .inBlock id :: .code z :: k) ⟨lk (ps.zip (V s')), H s'⟩ R) →
      (∀ s', E s' → AGo c f (.code z :: k) ⟨lk (ps.zip (V s')), H s'⟩ R) → AGo c f (.code x :: .inLoop y :: .inBlock id :: .code z :: k) ⟨lk (ps.zip (V s)), H s⟩ R)
    (hend : ∀ s, E s → AGo c f (.code z0 :: k) ⟨lk (ps.zip (V s)), H s⟩ R) : AGo c f (.code (.loop x) :: .inBlock id :: .code z0 :: k) σ R :=
  AGo.loopS I μ ps V H s0 h0 hL hI fun s hs ih => hstep s x z0 ⟨hx, hx, hz, hk⟩ hs ih hend

end Go.Proofs.Ytpneikbihcoaaab.Vm

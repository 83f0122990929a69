/- Calls in a walk, and what stands behind them. -/
import Derived.Test.YtpneikbihcoaaabVm18
namespace Go.Proofs.Ytpneikbihcoaaab.Vm
set_option linter.unusedVariables false
set_option linter.unusedSimpArgs false

variable {c : Ctx} {f : FuncId} {σ : AState} {R : AV → List AObj → Prop} {k : List Item}

/-- Behind a call: the rest of its region, and what follows. -/
def GR (P : Program) (n : Nat) (bad : List Nat) (c : Ctx) (f : FuncId) (ps : List Nat) (R : AV → List AObj → Prop) (m : Nat) (k : List Item) (ops : Array Oper) (l : List Oper) (σ : AState) : Prop :=
  match runTo P n ops l σ with
  | some (σ', []) => G P n bad c f ps R m k ⟨lk (ps.map fun j => (j, σ'.env j)), σ'.L⟩
  | some (σ', o :: l) => AOps c ops (o :: l) σ' (AK c f ps k R)
  | none => False

def GD (P : Program) (n : Nat) (bad : List Nat) (c : Ctx) (f : FuncId) (ps : List Nat) (R : AV → List AObj → Prop) (m : Nat) (k : List Item) (ops : Array Oper) (l : List Oper) (σ : AState) : Prop :=
  match runD P n ops l σ with
  | some (σ', []) => G P n bad c f ps R m k ⟨lk (ps.map fun j => (j, σ'.env j)), σ'.L⟩
  | some (σ', o :: l) => AOpsD c ops (AK c f ps k R) (o :: l) σ'
  | none => False

theorem AOps.callG {P : Program} {n : Nat} {ops : Array Oper} {o : Oper} {rest : List Oper} {g : FuncId} {args : List AV} {Q : AV → List AObj → Prop} {ps : List Nat}
    (hP : c.P = P) (hn : c.n = n) (hm : P.follows .mixedOrders = true) (bad : List Nat) (m : Nat) (hcall : ACall P g args σ.L Q)
    (hw : (awanted ops σ.env o == some true && guardOk n ops o && args.all noTup && dstOk n o.dst) = true) (he : callee σ o = some (g, args)) (hok : todoOk bad k = true)
    (h : ∀ r L', Q r L' → GR P n bad c f ps R m k ops rest ⟨updO σ.env o.dst r, L'⟩) : AOps c ops (o :: rest) σ (AK c f ps k R) := by
  refine AOps.step hP hn hcall hw he fun r L' hq => ?_
  have h1 := h r L' hq
  unfold GR at h1
  split at h1
  · rename_i σ' hr
    rw [hr]
    exact AOps.nil (AGo.go hP hn hm bad ps m hok h1)
  · rename_i σ' o' l' hr
    rw [hr]; exact h1
  · exact h1.elim

theorem AOps.callIs {P : Program} {n : Nat} {ops : Array Oper} {o : Oper} {rest : List Oper} {g : FuncId} {args : List AV} {r : AV} {L' : List AObj} {ps : List Nat}
    (hP : c.P = P) (hn : c.n = n) (hm : P.follows .mixedOrders = true) (bad : List Nat) (m : Nat) (hcall : ACall P g args σ.L (Is r L'))
    (hw : (awanted ops σ.env o == some true && guardOk n ops o && args.all noTup && dstOk n o.dst) = true) (he : callee σ o = some (g, args)) (hok : todoOk bad k = true)
    (h : GR P n bad c f ps R m k ops rest ⟨updO σ.env o.dst r, L'⟩) : AOps c ops (o :: rest) σ (AK c f ps k R) :=
  AOps.callG hP hn hm bad m hcall hw he hok fun _ _ hq => by obtain ⟨rfl, rfl⟩ := hq; exact h

theorem AOpsD.callIs {P : Program} {n : Nat} {ops : Array Oper} {o : Oper} {rest : List Oper} {g : FuncId} {args : List AV} {r : AV} {ps : List Nat}
    (hP : c.P = P) (hn : c.n = n) (hm : P.follows .mixedOrders = true) (bad : List Nat) (m : Nat) (hcall : ACall P g args σ.L (Is r σ.L))
    (hw : (awanted ops σ.env o == some true && guardOk n ops o && args.all noTup && dstOk n o.dst && okind o == 3) = true) (he : callee σ o = some (g, args)) (hok : todoOk bad k = true)
    (h : GD P n bad c f ps R m k ops rest ⟨updO σ.env o.dst r, σ.L⟩) : AOpsD c ops (AK c f ps k R) (o :: rest) σ := by
  refine AOpsD.step hP hn hcall hw he ?_
  unfold GD at h
  split at h
  · rename_i σ' hr
    rw [hr]
    exact AOpsD.nil (AGo.go hP hn hm bad ps m hok h)
  · rename_i σ' o' l' hr
    rw [hr]; exact h
  · exact h.elim

attribute [simp] GR GD
attribute [irreducible] GR GD

end Go.Proofs.Ytpneikbihcoaaab.Vm

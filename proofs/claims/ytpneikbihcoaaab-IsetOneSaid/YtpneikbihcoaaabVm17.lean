/- A function's code, walked by evaluation up to its calls, its loops and its ends. -/
import Derived.Test.YtpneikbihcoaaabVm16
namespace Go.Proofs.Ytpneikbihcoaaab.Vm
set_option linter.unusedVariables false
set_option linter.unusedSimpArgs false

variable {c : Ctx} {f : FuncId} {σ : AState} {R : AV → List AObj → Prop} {k : List Item}

/-- What stands behind a region: these slots alone are kept in mind. -/
def AK (c : Ctx) (f : FuncId) (ps : List Nat) (k : List Item) (R : AV → List AObj → Prop) (σ : AState) : Prop :=
  AGo c f k ⟨lk (ps.map fun j => (j, σ.env j)), σ.L⟩ R

/-- Just this value, and the objects as these. -/
def Is (x : AV) (L : List AObj) : AV → List AObj → Prop := fun r L' => r = x ∧ L' = L

/-! ### Words that an evaluation uses -/

theorem rd_tmp (σ : AState) (t : Nat) : σ.rd (.tmp t) = σ.env t := rfl
theorem rd_int (σ : AState) (k : IntKind) (n : Int) : σ.rd (.const (.int k n)) = .int k n := rfl
theorem rd_bool (σ : AState) (b : Bool) : σ.rd (.const (.bool b)) = .bool b := rfl
theorem rd_str (σ : AState) (s : ByteArray) : σ.rd (.const (.string s)) = .str s := rfl
theorem rd_nilS (σ : AState) : σ.rd (.const (.slice none 0 0)) = .nilS := rfl
theorem rd_nilP (σ : AState) : σ.rd (.const (.pointer none)) = .nilP := rfl
theorem rd_func (σ : AState) (f : Nat) : σ.rd (.func f) = .fn f [] := rfl
theorem updO_some (g : Nat → AV) (i : Nat) (x : AV) : updO g (some i) x = upd g i x := rfl
theorem updO_none (g : Nat → AV) (x : AV) : updO g none x = g := rfl
theorem upd_at (g : Nat → AV) (i j : Nat) (x : AV) : upd g i x j = if j = i then x else g j := rfl
theorem lk_cons (j : Nat) (x : AV) (r : List (Nat × AV)) (i : Nat) : lk ((j, x) :: r) i = if i = j then x else lk r i := rfl
theorem lk_nil (i : Nat) : lk [] i = .any := rfl

theorem heap_get (L M : List AObj) (i : Nat) : (L ++ M)[L.length + i]? = M[i]? := by
  rw [List.getElem?_append_right (by omega), show L.length + i - L.length = i from by omega]
theorem heap_get0 (L M : List AObj) : (L ++ M)[L.length]? = M[0]? := heap_get L M 0
theorem heap_set (L M : List AObj) (i : Nat) (x : AObj) : (L ++ M).set (L.length + i) x = L ++ M.set i x := by
  rw [List.set_append, if_neg (by omega), show L.length + i - L.length = i from by omega]
theorem heap_set0 (L M : List AObj) (x : AObj) : (L ++ M).set L.length x = L ++ M.set 0 x := heap_set L M 0 x
theorem heap_len (L M : List AObj) : (L ++ M).length = L.length + M.length := List.length_append
theorem heap_app (L M N : List AObj) : L ++ M ++ N = L ++ (M ++ N) := List.append_assoc ..

end Go.Proofs.Ytpneikbihcoaaab.Vm

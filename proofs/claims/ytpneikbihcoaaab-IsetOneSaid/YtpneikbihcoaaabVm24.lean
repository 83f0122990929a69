/- Words that an evaluation uses: numbers of so many bits, and bytes. -/
import Derived.Test.YtpneikbihcoaaabVm23
namespace Go.Proofs.Ytpneikbihcoaaab.Vm
set_option linter.unusedVariables false
set_option linter.unusedSimpArgs false

@[simp] theorem wrap_u8 (n : Int) : IntKind.u8.wrap n = n % 256 := rfl
@[simp] theorem wrap_u16 (n : Int) : IntKind.u16.wrap n = n % 65536 := rfl
@[simp] theorem wrap_u32 (n : Int) : IntKind.u32.wrap n = n % 4294967296 := rfl
@[simp] theorem wrap_u64 (n : Int) : IntKind.u64.wrap n = n % 18446744073709551616 := rfl
@[simp] theorem wrap_i64 (n : Int) : IntKind.i64.wrap n = (n + 9223372036854775808) % 18446744073709551616 - 9223372036854775808 := by
  have e : IntKind.i64.wrap n = if (decide (n % 18446744073709551616 ≥ 9223372036854775808)) = true then n % 18446744073709551616 - 18446744073709551616 else n % 18446744073709551616 := rfl
  rw [e]
  split <;> simp_all <;> omega

theorem wrap_id {n : Int} (h1 : -9223372036854775808 ≤ n) (h2 : n < 9223372036854775808) : IntKind.i64.wrap n = n := by rw [wrap_i64]; omega
theorem wrap_id32 {n : Int} (h1 : 0 ≤ n) (h2 : n < 4294967296) : IntKind.u32.wrap n = n := by rw [wrap_u32]; omega
theorem wrap_id64 {n : Int} (h1 : 0 ≤ n) (h2 : n < 18446744073709551616) : IntKind.u64.wrap n = n := by rw [wrap_u64]; omega
@[simp] theorem ba_append (a b : Array UInt8) : (⟨a⟩ : ByteArray) ++ ⟨b⟩ = ⟨a ++ b⟩ := by
  apply ByteArray.ext
  simp
@[simp] theorem ba_size (a : Array UInt8) : (⟨a⟩ : ByteArray).size = a.size := rfl
@[simp] theorem ba_toList (a : Array UInt8) : (⟨a⟩ : ByteArray).toList = a.toList := by rw [ByteArray.toList_eq]
theorem ba_ext {a b : ByteArray} (h : a.toList = b.toList) : a = b := by
  rw [ByteArray.toList_eq, ByteArray.toList_eq] at h
  exact ByteArray.ext (Array.ext' h)
attribute [simp] bytesStr strBytes zOk
@[simp] theorem idsL_append (p : Nat → Bool) (ys : List AV) : ∀ xs : List AV, AV.idsL p (xs ++ ys) = (AV.idsL p xs && AV.idsL p ys)
  | [] => by simp [AV.idsL]
  | x :: xs => by simp [AV.idsL, idsL_append p ys xs, Bool.and_assoc]
@[simp] theorem closedL_append (ys : List AV) : ∀ xs : List AV, AV.closedL (xs ++ ys) = (AV.closedL xs && AV.closedL ys)
  | [] => by simp [AV.closedL]
  | x :: xs => by simp [AV.closedL, closedL_append ys xs, Bool.and_assoc]

variable {c : Ctx} {f : FuncId} {σ : AState} {R : AV → List AObj → Prop} {k : List Item}

theorem AOps.goodG {P : Program} {n : Nat} {ops : Array Oper} {o : Oper} {rest : List Oper} {x : AV} {L' : List AObj} {ps : List Nat}
    (hP : c.P = P) (hn : c.n = n) (hm : P.follows .mixedOrders = true) (bad : List Nat) (m : Nat)
    (hgood : ∀ (a : Act) (w : World) (β : List PO), Rel c σ a w β → Good c σ.L β w x L' ((execOp a.eval o).run c.P w))
    (hw : (awanted ops σ.env o == some true && guardOk n ops o && dstOk n o.dst) = true) (hok : todoOk bad k = true)
    (h : GR P n bad c f ps R m k ops rest ⟨updO σ.env o.dst x, L'⟩) : AOps c ops (o :: rest) σ (AK c f ps k R) := by
  refine AOps.good hP hn hgood hw ?_
  unfold GR at h
  split at h
  · rename_i σ' hr
    rw [hr]
    exact AOps.nil (AGo.go hP hn hm bad ps m hok h)
  · rename_i σ' o' l' hr
    rw [hr]; exact h
  · exact h.elim

/-- All of an array that is written no more is sliced. -/
theorem AOps.sliceArr {P : Program} {n : Nat} {ops : Array Oper} {o : Oper} {rest : List Oper} {ps : List Nat} {t : TypeId} {x : Operand} {e esz l n' : Nat} {xs : List AV}
    (hP : c.P = P) (hn : c.n = n) (hm : P.follows .mixedOrders = true) (bad : List Nat) (m : Nat) (ho : o.op = .slice t x none none none)
    (ht : tk P t = some (.arr l e esz, n')) (hx : σ.rd x = .ref (.agg xs)) (hall : (xs.all (·.size == esz) && decide (0 < esz) && decide (xs.length = l) && decide (0 < l)) = true)
    (hw : (awanted ops σ.env o == some true && guardOk n ops o && dstOk n o.dst) = true) (hok : todoOk bad k = true)
    (h : GR P n bad c f ps R m k ops rest ⟨updO σ.env o.dst (.slice xs), σ.L⟩) : AOps c ops (o :: rest) σ (AK c f ps k R) := by
  simp only [Bool.and_eq_true, decide_eq_true_eq] at hall
  obtain ⟨⟨⟨h1, h2⟩, h3⟩, h4⟩ := hall
  exact AOps.goodG hP hn hm bad m (fun a w β hr => good_slice_arr hr ho (hP ▸ ht) hx h1 h2 h3 h4) hw hok h

theorem WFL.set_cold {L : List AObj} (h : WFL L) {o : Nat} {obj : AObj} (h1 : L[o]? = some obj) : WFL (L.set o obj.cold) := by
  intro ob hob
  rw [List.length_set]
  rcases List.mem_or_eq_of_mem_set hob with h2 | h2
  · exact h ob h2
  · rw [h2]
    exact h obj (List.mem_of_getElem? h1)

end Go.Proofs.Ytpneikbihcoaaab.Vm

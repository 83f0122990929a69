/- Greatest numbers, clones. -/
import Derived.Test.YtpneikbihcoaaabSort2
import Derived.Test.YtpneikbihcoaaabFacts
import Derived.Test.YtpneikbihcoaaabKeep
open Go Go.Proofs Go.Proofs.Ytpneikbihcoaaab
namespace Go.Proofs.Ytpneikbihcoaaab.Vm
set_option linter.unusedVariables false
set_option linter.unusedSimpArgs false

@[simp] theorem spL_len (l : List Sp) : (spL l).length = l.length := by simp [spL]
@[simp] theorem spL_nil : spL [] = [] := rfl
@[simp] theorem spL_eq_nil (l : List Sp) : spL l = [] ↔ l = [] := by simp [spL]
@[simp] theorem spL_size (l : List Sp) : ∀ x ∈ spL l, x.size = 2 := fun x hx => by
  obtain ⟨s, _, rfl⟩ := List.mem_map.1 hx; rfl
@[simp] theorem spL_all (l : List Sp) : ((spL l).all fun x => x.size == 2) = true := by simp [spL, spA, AV.size, AV.sizes]
@[simp] theorem spL_all2 (l : List Sp) : ((spL l).all fun x => x.size == 2 && x.memo) = true := by
  rw [List.all_eq_true]
  intro x hx
  obtain ⟨s, _, rfl⟩ := List.mem_map.1 hx
  rfl
@[simp] theorem spL_closed (l : List Sp) : AV.closedL (spL l) = true := AV.closedL_map _ (fun s => rfl) l
@[simp] theorem spL_ids (l : List Sp) (p : Nat → Bool) : AV.idsL p (spL l) = true := AV.idsL_closed _ _ (spL_closed l)
@[simp] theorem spL_take (l : List Sp) (n : Nat) : (spL l).take n = spL (l.take n) := by simp [spL]
@[simp] theorem spL_drop (l : List Sp) (n : Nat) : (spL l).drop n = spL (l.drop n) := by simp [spL]
theorem spL_append (l m : List Sp) : spL l ++ spL m = spL (l ++ m) := by simp [spL]
theorem spL_get {l : List Sp} {i : Nat} (h : i < l.length) : (spL l)[i]? = some (.agg [.int .u64 (l.getD i (0, 0)).1, .int .u64 (l.getD i (0, 0)).2]) := by
  simp [spL, spA, h, List.getD]
theorem spL_set (l : List Sp) (i : Nat) (s : Sp) : (spL l).set i (.agg [.int .u64 s.1, .int .u64 s.2]) = spL (l.set i s) := by
  simp [spL, spA, List.map_set]

def mostS (w : Int) : Int := if w = 32 then 4294967295 else if w = 64 then 18446744073709551615 else 0
def okW (w : Int) : Bool := w == 32 || w == 64

theorem greatest_run (w : Int) (L : List AObj) (hw : WFL L) : ACall Try.prog 23 [.int .i64 w] L (Is (.tup [.int .u64 (mostS w), .bool (okW w)]) L) := by
  refine ACall.walk (by kernel_rfl) Try.func23 rfl rfl rfl rfl [] (by kernel_rfl) kp23 100 fun c hP hn hL => ?_
  by_cases h1 : w = 32
  · subst h1
    simp [Try.f23]
    exact AGo.ret_is hP Try.func23 hL hw (by simp [Try.f23] <;> rfl) rfl rfl (by simp [mostS, okW])
  · by_cases h2 : w = 64
    · subst h2
      simp [Try.f23]
      exact AGo.ret_is hP Try.func23 hL hw (by simp [Try.f23] <;> rfl) rfl rfl (by simp [mostS, okW])
    · have e1 : (w == 32) = false := by simpa using h1
      have e2 : (w == 64) = false := by simpa using h2
      simp [Try.f23, h1, h2, e1, e2]
      exact AGo.ret_is hP Try.func23 hL hw (by simp [Try.f23] <;> rfl) rfl rfl (by simp [mostS, okW, h1, h2, e1, e2])

def RowS (l : List Sp) (L : List AObj) (r : AV) (L' : List AObj) : Prop :=
  ∃ ver esz nil, r = .own L.length ver 0 l.length ∧ L' = L ++ [⟨ver, esz, nil, false, spL l⟩] ∧ (l ≠ [] → esz = 2 ∧ nil = false)

theorem ACall.rowS {P : Program} {f : FuncId} {args : List AV} {L : List AObj} {l : List Sp} (h : ACall P f args L (RowS l L)) (hw : WFL L) : ACall P f args L (Is (.slice (spL l)) L) :=
  h.froze hw (spL_closed l) fun r L' ⟨ver, esz, nil, h1, h2, h3⟩ => ⟨ver, l.length, _, h1, h2, rfl, by simp, rfl⟩

set_option maxRecDepth 4000 in
theorem clone_run (l : List Sp) (hl : l.length < 1099511627776) (L : List AObj) (hw : WFL L) : ACall Try.prog 24 [.slice (spL l)] L (RowS l L) := by
  refine ACall.walk (by kernel_rfl) Try.func24 rfl rfl rfl rfl [] (by kernel_rfl) kp24 100 fun c hP hn hL => ?_
  simp [Try.f24]
  refine AOps.goodE (fun y => ∃ b, y = .bool b ∧ (b = true → spL l = [])) hP hn rfl [] 100 (fun a w β hr => good_isNil hr rfl (by rw [hP]; rfl) (by simp)) (by simp) (by kernel_rfl) ?_
  rintro y ⟨b, rfl, hb⟩
  cases b <;> simp
  rotate_left
  · obtain rfl := (spL_eq_nil l).1 (hb rfl)
    simp
    exact AGo.ret_row (i := 1) hP Try.func24 hL hw (by simp [Try.f24] <;> rfl) rfl rfl rfl ⟨0, 0, true, rfl, rfl, by simp⟩
  · have h1 : l.length * 16 ≤ 35184372088832 := by omega
    have h2 : l.length < 35184372088832 := by omega
    by_cases hl0 : l = []
    · subst hl0
      simp
      exact AGo.ret_row (i := 1) hP Try.func24 hL hw (by simp [Try.f24] <;> rfl) rfl rfl rfl ⟨0, 2, false, rfl, rfl, by simp⟩
    · simp [h1, h2, hl0]
      exact AGo.ret_row (i := 1) hP Try.func24 hL hw (by simp [Try.f24] <;> rfl) rfl rfl (spL_closed l) ⟨1, 2, false, rfl, rfl, by simp⟩

end Go.Proofs.Ytpneikbihcoaaab.Vm

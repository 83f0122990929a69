/- The names of a record's fields: what the functions give. -/
import Derived.Test.YtpneikbihcoaaaaRec2
open Go Go.Proofs Go.Proofs.Ytpneikbihcoaaaa
namespace Go.Proofs.Ytpneikbihcoaaaa.Vm
set_option linter.unusedVariables false
set_option linter.unusedSimpArgs false

/-- The names. -/
def nms : List ByteArray := [⟨#[110, 114]⟩, ⟨#[97, 114, 99, 104]⟩, ⟨#[105, 112]⟩, ⟨#[97, 114, 103, 48]⟩, ⟨#[97, 114, 103, 49]⟩, ⟨#[97, 114, 103, 50]⟩, ⟨#[97, 114, 103, 51]⟩, ⟨#[97, 114, 103, 52]⟩, ⟨#[97, 114, 103, 53]⟩]

def nameOf (f : Int) : ByteArray := if f < 0 ∨ 9 ≤ f then ⟨#[]⟩ else nms.getD f.toNat ⟨#[]⟩

theorem names_run (L : List AObj) (hw : WFL L) : ACall Try.prog 53 [] L (Is (.agg (nms.map .str)) L) := by
  refine ACall.walk (by kernel_rfl) Try.func53 rfl rfl rfl rfl [] (by kernel_rfl) kp53 100 fun c hP hn hL => ?_
  simp [Try.f53]
  exact AGo.ret_isM hP Try.func53 hL hw (by simp [Try.f53]; rfl) rfl rfl (by simp [nms])

theorem name_run (f : Int) (L : List AObj) (hw : WFL L) : ACall Try.prog 26 [.int .i64 f] L (Is (.str (nameOf f)) L) := by
  refine ACall.walk (by kernel_rfl) Try.func26 rfl rfl rfl rfl [] (by kernel_rfl) kp26 100 fun c hP hn hL => ?_
  by_cases h0 : f < 0
  · simp [Try.f26, h0]
    exact AGo.ret_is hP Try.func26 hL hw (by simp [Try.f26]; rfl) rfl rfl (by simp [nameOf, h0])
  · by_cases h1 : 9 ≤ f
    · simp [Try.f26, h0, h1]
      exact AGo.ret_is hP Try.func26 hL hw (by simp [Try.f26]; rfl) rfl rfl (by simp [nameOf, h1])
    · rcases cases_f h0 h1 with rfl | rfl | rfl | rfl | rfl | rfl | rfl | rfl | rfl <;>
      · simp [Try.f26]
        refine AOps.callIs hP hn rfl [] 100 (names_run _ (by simp [hw])) (by simp) (by simp) (by kernel_rfl) ?_
        simp [nms]
        exact AGo.ret_is hP Try.func26 hL hw (by simp [Try.f26]; rfl) rfl rfl (by simp [nameOf, nms])

theorem refName_run (f : Int) (L : List AObj) (hw : WFL L) : ACall Try.prog 27 [.int .i64 f] L (Is (.str (nameOf f)) L) := by
  refine ACall.walk (by kernel_rfl) Try.func27 rfl rfl rfl rfl [] (by kernel_rfl) kp27 100 fun c hP hn hL => ?_
  by_cases h0 : f < 0
  · simp [Try.f27, h0, show ¬ f = 0 by omega, show ¬ f = 1 by omega, show ¬ f = 2 by omega, show f < 3 by omega]
    exact AGo.ret_is hP Try.func27 hL hw (by simp [Try.f27]; rfl) rfl rfl (by simp [nameOf, h0])
  · by_cases h1 : 9 ≤ f
    · simp [Try.f27, h0, show ¬ f = 0 by omega, show ¬ f = 1 by omega, show ¬ f = 2 by omega, show ¬ f < 3 by omega, show 8 < f by omega]
      exact AGo.ret_is hP Try.func27 hL hw (by simp [Try.f27]; rfl) rfl rfl (by simp [nameOf, h1])
    · rcases cases_f h0 h1 with rfl | rfl | rfl | rfl | rfl | rfl | rfl | rfl | rfl
      iterate 3
        · simp [Try.f27]
          exact AGo.ret_is hP Try.func27 hL hw (by simp [Try.f27]; rfl) rfl rfl (by simp [nameOf, nms])
      iterate 6
        · simp [Try.f27]
          exact AGo.ret_isM hP Try.func27 hL hw (by simp [Try.f27]; rfl) rfl rfl (by simp [nameOf, nms])

/-- The place of a text in a row of texts. -/
def indexOf : List ByteArray → ByteArray → Nat → Int
  | [], _, _ => -1
  | x :: xs, s, i => if s.toList == x.toList then i else indexOf xs s (i + 1)

theorem indexOf_drop {xs : List ByteArray} {s : ByteArray} {i : Nat} (h : i < xs.length) : indexOf (xs.drop i) s i = if s.toList == xs[i].toList then (i : Int) else indexOf (xs.drop (i + 1)) s (i + 1) := by
  rw [List.drop_eq_getElem_cons h]
  rfl

theorem index_run (xs : List ByteArray) (s : ByteArray) (hx : xs.length < 2 ^ 62) (L : List AObj) (hw : WFL L) :
    ACall Try.prog 54 [.slice (xs.map .str), .str s] L (Is (.int .i64 (indexOf xs s 0)) L) := by
  refine ACall.walk (by kernel_rfl) Try.func54 rfl rfl rfl rfl [] (by kernel_rfl) kp54 100 fun c hP hn hL => ?_
  simp [Try.f54]
  refine AGo.loopP (fun i => indexOf (xs.drop i) s i = indexOf xs s 0) [0, 1, 7, 8] (fun i => [.slice (xs.map .str), .str s, .int .i64 xs.length, .int .i64 i]) (fun _ => L) xs.length (by simp) rfl rfl
    (fun i hi hI ih => ?_) (fun hI => ?_)
  · rw [indexOf_drop hi] at hI
    refine AGo.go hP hn rfl [] kp54 100 (by kernel_rfl) ?_
    have hi' : (i : Int) < xs.length := by omega
    have hget : xs[i]? = some xs[i] := List.getElem?_eq_getElem hi
    by_cases hs : s.toList = xs[i].toList
    · simp [hi', hget, hs]
      simp only [hs, beq_self_eq_true, if_true] at hI
      exact AGo.ret_is hP Try.func54 hL hw (by simp [Try.f54]; rfl) rfl rfl (by simp [← hI])
    · simp [hi', hget, hs]
      refine AGo.again (ih (by simpa [hs] using hI)) (by simp; omega) rfl
  · refine AGo.go hP hn rfl [] kp54 100 (by kernel_rfl) ?_
    simp
    exact AGo.ret_is hP Try.func54 hL hw (by simp [Try.f54]; rfl) rfl rfl (by rw [← hI]; simp [indexOf])

def findOf (s : ByteArray) : Int := if indexOf nms s 0 < 0 then 0 else indexOf nms s 0

theorem find_run (s : ByteArray) (L : List AObj) (hw : WFL L) : ACall Try.prog 20 [.str s] L (Is (.tup [.int .i64 (findOf s), .bool (decide (0 ≤ indexOf nms s 0))]) L) := by
  refine ACall.walk (by kernel_rfl) Try.func20 rfl rfl rfl rfl [] (by kernel_rfl) kp20 100 fun c hP hn hL => ?_
  simp [Try.f20]
  refine AOps.callIs hP hn rfl [] 100 (names_run _ (by simp [hw, hw.append_closed])) (by simp) (by simp) (by kernel_rfl) ?_
  have hf : ∀ L', WFL L' → ACall Try.prog 54 [.slice (nms.map .str), .str s] L' (Is (.int .i64 (indexOf nms s 0)) L') := fun L' h' => index_run nms s (by decide) L' h'
  simp [nms] at hf
  generalize hj : indexOf nms s 0 = j at *
  simp [nms] at hj ⊢
  rw [hj] at hf
  refine AOps.freeze L.length (by simp; rfl) ?_
  simp [frzL]
  refine AOps.sliceArr hP hn rfl [] 100 rfl tk76 (by simp; rfl) (by simp) (by simp) (by kernel_rfl) ?_
  simp
  refine AOps.callIs hP hn rfl [] 100 (hf _ (by simp [hw.append_closed])) (by simp) (by simp) (by kernel_rfl) ?_
  by_cases h0 : 0 ≤ j
  · simp [h0, maxAV]
    exact AGo.ret_isM hP Try.func20 hL hw (by simp [Try.f20]; rfl) rfl rfl (by simp [findOf, nms, hj] <;> omega)
  · simp [h0, maxAV]
    exact AGo.ret_isM hP Try.func20 hL hw (by simp [Try.f20]; rfl) rfl rfl (by simp [findOf, nms, hj] <;> omega)

end Go.Proofs.Ytpneikbihcoaaaa.Vm

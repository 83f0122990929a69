/- Any bytes are the record that the document says, or are refused; any record is read as it was. -/
import Derived.Test.YtpneikbihcoaaaaRec7
open Go Go.Proofs Go.Proofs.Ytpneikbihcoaaaa
namespace Go.Proofs.Ytpneikbihcoaaaa.Vm
set_option linter.unusedVariables false
set_option linter.unusedSimpArgs false

theorem wb_wd (s : ByteArray) (j m : Nat) (hm : m < 4) : (wb (wd s j))[m]? = some ((byt s (4 * j + m)).toNat : Int) := by
  have h0 := byt_lt s (4 * j); have h1 := byt_lt s (4 * j + 1); have h2 := byt_lt s (4 * j + 2); have h3 := byt_lt s (4 * j + 3)
  rcases (by omega : m = 0 ∨ m = 1 ∨ m = 2 ∨ m = 3) with rfl | rfl | rfl | rfl <;> simp [wb, wd] <;> omega

theorem print_read (s : ByteArray) (hs : s.size = 64) : bytesOf (rb (readR s) 16) = s := by
  have hs' : s.data.size = 64 := hs
  apply ByteArray.ext
  apply Array.ext'
  apply List.ext_getElem?
  intro i
  by_cases hi : i < 64
  · obtain ⟨j, m, rfl, hm⟩ : ∃ j m, i = 4 * j + m ∧ m < 4 := ⟨i / 4, i % 4, by omega, by omega⟩
    have h := rb_get (readR s) j m hm 16 (by omega)
    have hr : readR s j = wd s j := by simp [readR, hs]
    rw [hr, wb_wd s j m hm] at h
    have hb := byt_get (s := s) (j := 4 * j + m) (by omega)
    simp only [bytesOf, List.getElem?_map, h, Option.map_some]
    rw [Array.getElem?_toList, hb]
    simp
  · rw [List.getElem?_eq_none (by simp [bytesOf]; omega), List.getElem?_eq_none (by simp; omega)]

theorem readR_ok (s : ByteArray) : OkR (readR s) := fun j => by
  simp only [readR]; split
  · exact wd_ok s j
  · omega

theorem eqR_refl (r : Nat → Int) : eqR r r = true := eqR_iff.2 fun _ _ => rfl
theorem eqR_read (r : Nat → Int) (hr : OkR r) : eqR (readR (bytesOf (rb r 16))) r = true := eqR_iff.2 fun j hj => by
  simp only [readR, size_rb, if_true]; exact wd_rb r hr j hj

set_option maxRecDepth 4000 in
theorem reads_law (s : ByteArray) (r : Nat → Int) (hr : OkR r) (L : List AObj) (hw : WFL L) : ACall Try.prog 5 [.str s, RA r] L (Is (.bool true) L) := by
  refine ACall.walk (by kernel_rfl) Try.func5 rfl rfl rfl rfl [] (by kernel_rfl) kp5 100 fun c hP hn hL => ?_
  simp [Try.f5, RA]
  refine AOps.callIs hP hn rfl [] 100 (awake_run _ (by simp [hw, hw.append_closed])) (by simp [RA]) (by simp <;> rfl) (by kernel_rfl) ?_
  by_cases h1 : 200 < s.size
  · have h1' : (200 : Int) < (s.size : Int) := by omega
    simp [h1, h1']
    refine AOps.callIs hP hn rfl [] 100 (awake_run _ (by simp [hw, hw.append_closed])) (by simp [RA]) (by simp <;> rfl) (by kernel_rfl) ?_
    simp
    exact AGo.ret_isM hP Try.func5 hL hw (by simp [Try.f5] <;> rfl) rfl rfl rfl
  · have h1' : ¬ (200 : Int) < (s.size : Int) := by omega
    simp [h1, h1']
    refine AOps.callIs hP hn rfl [] 100 (read_run s _ (by simp [hw, hw.append_closed])) (by simp [RA]) (by simp <;> rfl) (by kernel_rfl) ?_
    simp [RA]
    refine AOps.callIs hP hn rfl [] 100 (refRead_run s _ (by simp [hw, hw.append_closed])) (by simp [RA]) (by simp <;> rfl) (by kernel_rfl) ?_
    simp [RA]
    refine AOps.callIs hP hn rfl [] 100 (print_run r hr _ (by simp [hw, hw.append_closed])) (by simp [RA]) (by simp <;> rfl) (by kernel_rfl) ?_
    simp [RA]
    refine AOps.callIs hP hn rfl [] 100 (read_run (bytesOf (rb r 16)) _ (by simp [hw, hw.append_closed])) (by simp [RA]) (by simp <;> rfl) (by kernel_rfl) ?_
    have hwr : IntKind.i64.wrap (readE s) = readE s := by
      unfold readE
      split
      · exact wrap_id (by omega) (by omega)
      · split <;> exact wrap_id (by omega) (by omega)
    simp [-wrap_i64, RA, eqAVs_RL, eqR_refl, hwr]
    refine AOps.callIs hP hn rfl [] 100 (refPrint_run r hr _ (by simp [hw, hw.append_closed])) (by simp [RA]) (by simp <;> rfl) (by kernel_rfl) ?_
    by_cases he : readE s = 0
    · have hs : s.size = 64 := by unfold readE at he; split at he; omega; split at he <;> omega
      simp [RA, eqAVs_RL, eqR_read r hr, readE_rb, he]
      refine AOps.callIs hP hn rfl [] 100 (print_run (readR s) (readR_ok s) _ (by simp [hw, hw.append_closed])) (by simp [RA]) (by simp <;> rfl) (by kernel_rfl) ?_
      simp [print_read s hs]
      exact AGo.ret_isM hP Try.func5 hL hw (by simp [Try.f5] <;> rfl) rfl rfl rfl
    · have he' : (readE s != 0) = true := by simp [he]
      simp [RA, eqAVs_RL, eqR_read r hr, readE_rb, he, he']
      exact AGo.ret_isM hP Try.func5 hL hw (by simp [Try.f5] <;> rfl) rfl rfl rfl

end Go.Proofs.Ytpneikbihcoaaaa.Vm

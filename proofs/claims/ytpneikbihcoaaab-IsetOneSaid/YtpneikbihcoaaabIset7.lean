/- And, Not. -/
import Derived.Test.YtpneikbihcoaaabIset3
open Go Go.Proofs Go.Proofs.Ytpneikbihcoaaab
namespace Go.Proofs.Ytpneikbihcoaaab.Vm
set_option linter.unusedVariables false
set_option linter.unusedSimpArgs false

theorem okS_norm {w : Int} {l : List Sp} (hok : OkS l) : OkS (normW w l) := by
  intro s hs
  unfold normW at hs
  split at hs
  · have h1 := (norm_form _ _).2 s hs
    have h2 := norm_low (fun t ht => (hok t ht).1.1) s hs
    have h3 : mostS w < 18446744073709551616 := by unfold mostS; split; omega; split <;> omega
    omega
  · cases hs
theorem normW_len (w : Int) (l : List Sp) : (normW w l).length ≤ l.length := by
  unfold normW
  split
  · exact norm_len _ _
  · simp

structure AS where
  x : List Sp
  y : List Sp
  out : List Sp
  ver : Nat
  esz : Nat
  nil : Bool

set_option maxRecDepth 4000 in
set_option maxHeartbeats 2000000 in
theorem and_run (a b : List Sp) (ha : a.length < 1099511627776) (hb : b.length < 1099511627776) (hoa : OkS a) (hob : OkS b) (L : List AObj) (hw : WFL L) :
    ACall Try.prog 16 [.slice (spL a), .slice (spL b)] L (RowS (andS a b) L) := by
  refine ACall.walk (by kernel_rfl) Try.func16 rfl rfl rfl rfl [] (by kernel_rfl) kp16 100 fun c hP hn hL => ?_
  simp [Try.f16]
  refine AOps.callIs hP hn rfl [] 100 (norm_is a ha hoa 64 _ (by simp [hw, hw.append_closed])) (by simp) (by simp <;> rfl) (by kernel_rfl) ?_
  simp
  refine AOps.callIs hP hn rfl [] 100 (norm_is b hb hob 64 _ (by simp [hw, hw.append_closed])) (by simp) (by simp <;> rfl) (by kernel_rfl) ?_
  simp
  have hxl := normW_len 64 a
  have hyl := normW_len 64 b
  have hdef : andS a b = andN ((normW 64 a).length + (normW 64 b).length) (normW 64 a) (normW 64 b) := rfl
  have hox : OkS (normW 64 a) := okS_norm hoa
  have hoy : OkS (normW 64 b) := okS_norm hob
  rw [hdef]
  clear hdef
  generalize normW 64 a = X at *
  generalize normW 64 b = Y at *
  refine AGo.loopE (α := AS) (fun s => s.out ++ andN (s.x.length + s.y.length) s.x s.y = andN (X.length + Y.length) X Y ∧ s.out.length + s.x.length + s.y.length ≤ X.length + Y.length ∧ (s.nil = true ∨ s.esz = 2) ∧ (s.out ≠ [] → s.esz = 2 ∧ s.nil = false) ∧ OkS s.x ∧ OkS s.y)
    (fun s => s.out = andN (X.length + Y.length) X Y ∧ (s.out ≠ [] → s.esz = 2 ∧ s.nil = false)) (fun s => s.x.length + s.y.length)
    [4, 5, 6] (fun s => [.own L.length s.ver 0 s.out.length, .slice (spL s.x), .slice (spL s.y)])
    (fun s => L ++ [⟨s.ver, s.esz, s.nil, false, spL s.out⟩]) ⟨X, Y, [], 0, 0, true⟩ (by kernel_rfl) (by kernel_rfl) (by kernel_rfl) (by simp) (by simp) (by simp; exact ⟨hox, hoy⟩) ?_ ?_
  rotate_left
  · rintro ⟨x, y, out, ver, esz, nil⟩ ⟨h1, h2⟩
    simp only at h1 h2
    refine AGo.go hP hn rfl [] kp16 100 (by kernel_rfl) ?_
    simp
    exact AGo.ret_rowS (i := 0) (ver := ver) (esz := esz) (nil := nil) hP Try.func16 hL hw (by simp [Try.f16, ← h1] <;> rfl) rfl (by simp [h1]) (by rw [← h1]; exact h2)
  rintro ⟨x, y, out, ver, esz, nil⟩ y' z hR ⟨h1, hl, he1, he2, hx, hy⟩ ih hex
  simp only at h1 hl he1 he2 hx hy
  refine AGo.go hP hn rfl [100000] kp16 100 (hR.ok _) ?_
  cases x with
  | nil =>
    simp
    exact AGo.again (hex ⟨[], y, out, ver, esz, nil⟩ ⟨by simpa [andN_nil1] using h1, he2⟩) (by simp) (by simp)
  | cons s x =>
    cases y with
    | nil =>
      simp
      exact AGo.again (hex ⟨s :: x, [], out, ver, esz, nil⟩ ⟨by simpa [andN_nil2] using h1, he2⟩) (by simp) (by simp)
    | cons t y =>
      have hs := hx s (by simp)
      have ht := hy t (by simp)
      have e1 : spL (s :: x) = .agg [.int .u64 s.1, .int .u64 s.2] :: spL x := rfl
      have e2 : spL (t :: y) = .agg [.int .u64 t.1, .int .u64 t.2] :: spL y := rfl
      obtain ⟨lo, hlo⟩ : ∃ lo, lo = max s.1 t.1 := ⟨_, rfl⟩
      obtain ⟨hi, hhi⟩ : ∃ hi, hi = min s.2 t.2 := ⟨_, rfl⟩
      have hif1 : (if s.1 < t.1 then t.1 else s.1) = lo := by rw [hlo]; split <;> omega
      have hif2 : (if t.2 < s.2 then t.2 else s.2) = hi := by rw [hhi]; split <;> omega
      have hx' : OkS x := fun u hu => hx u (by simp [hu])
      have hy' : OkS y := fun u hu => hy u (by simp [hu])
      simp only [List.length_cons] at hl
      have hx0 : (0 : Int) < (x.length : Int) + 1 := by omega
      have hy0 : (0 : Int) < (y.length : Int) + 1 := by omega
      have hx1 : (1 : Int) ≤ (x.length : Int) + 1 := by omega
      have hy1 : (1 : Int) ≤ (y.length : Int) + 1 := by omega
      have hstep : ∀ n, andN (n + 1) (s :: x) (t :: y) = if lo ≤ hi then (lo, hi) :: (if s.2 < t.2 then andN n x (t :: y) else andN n (s :: x) y) else if s.2 < t.2 then andN n x (t :: y) else andN n (s :: x) y := fun n => by rw [hlo, hhi]; rfl
      rw [show (s :: x).length + (t :: y).length = (x.length + y.length + 1) + 1 by simp only [List.length_cons]; omega, hstep] at h1
      have ho1 : (out.length + 1) * 16 ≤ 35184372088832 := by omega
      have ho2 : out.length + 1 < 35184372088832 := by omega
      have hto : (spL out).take out.length = spL out := by simp
      have n1 : x.length + y.length + 1 = x.length + (t :: y).length := by simp only [List.length_cons]; omega
      have n2 : x.length + y.length + 1 = (s :: x).length + y.length := by simp only [List.length_cons]; omega
      by_cases h2 : lo ≤ hi
      · rw [if_pos h2] at h1
        by_cases h3 : s.2 < t.2
        · rw [if_pos h3, n1] at h1
          simp [-wrap_i64, e1, e2, minAV, maxAV, hif1, hif2, h2, h3, hx0, hy0, hx1, hy1, he1, ho1, ho2]
          refine AGo.keep [4, 5, 6] ?_
          simp
          refine AGo.trimTo (M := [_]) (N := [_, _]) hL hw (by simp [AV.idsL, AV.ids]) (by simp [AV.ids]) ?_
          exact AGo.again (ih ⟨x, (t :: y), (out ++ [(lo, hi)]), (ver + 1), 2, false⟩ (by simp <;> omega) ⟨by simpa using h1, by simp at hl ⊢; omega, by simp, by simp, hx', hy⟩) (by simp [e1, e2]) (by simp [spL, spA])
        · rw [if_neg h3, n2] at h1
          simp [-wrap_i64, e1, e2, minAV, maxAV, hif1, hif2, h2, h3, hx0, hy0, hx1, hy1, he1, ho1, ho2]
          refine AGo.keep [4, 5, 6] ?_
          simp
          refine AGo.trimTo (M := [_]) (N := [_, _]) hL hw (by simp [AV.idsL, AV.ids]) (by simp [AV.ids]) ?_
          exact AGo.again (ih ⟨(s :: x), y, (out ++ [(lo, hi)]), (ver + 1), 2, false⟩ (by simp <;> omega) ⟨by simpa using h1, by simp at hl ⊢; omega, by simp, by simp, hx, hy'⟩) (by simp [e1, e2]) (by simp [spL, spA])
      · rw [if_neg h2] at h1
        by_cases h3 : s.2 < t.2
        · rw [if_pos h3, n1] at h1
          simp [-wrap_i64, e1, e2, minAV, maxAV, hif1, hif2, h2, h3, hx0, hy0, hx1, hy1, he1, ho1, ho2]
          refine AGo.keep [4, 5, 6] ?_
          simp
          refine AGo.trimTo (M := [_]) (N := [_]) hL hw (by simp [AV.idsL, AV.ids]) (by simp [AV.ids]) ?_
          exact AGo.again (ih ⟨x, (t :: y), out, ver, esz, nil⟩ (by simp <;> omega) ⟨by simpa using h1, by simp at hl ⊢; omega, he1, he2, hx', hy⟩) (by simp [e1, e2]) (by simp [e1, e2])
        · rw [if_neg h3, n2] at h1
          simp [-wrap_i64, e1, e2, minAV, maxAV, hif1, hif2, h2, h3, hx0, hy0, hx1, hy1, he1, ho1, ho2]
          refine AGo.keep [4, 5, 6] ?_
          simp
          refine AGo.trimTo (M := [_]) (N := [_]) hL hw (by simp [AV.idsL, AV.ids]) (by simp [AV.ids]) ?_
          exact AGo.again (ih ⟨(s :: x), y, out, ver, esz, nil⟩ (by simp <;> omega) ⟨by simpa using h1, by simp at hl ⊢; omega, he1, he2, hx, hy'⟩) (by simp [e1, e2]) (by simp [e1, e2])

end Go.Proofs.Ytpneikbihcoaaab.Vm

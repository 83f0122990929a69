/- Not, Least, Count, Of. -/
import Derived.Test.YtpneikbihcoaaabIset7
open Go Go.Proofs Go.Proofs.Ytpneikbihcoaaab
namespace Go.Proofs.Ytpneikbihcoaaab.Vm
set_option linter.unusedVariables false
set_option linter.unusedSimpArgs false

structure NO where
  i : Nat
  rest : List Sp
  next : Int
  out : List Sp
  ver : Nat
  esz : Nat
  nil : Bool

def notW (w : Int) (l : List Sp) : List Sp := if okW w = true then notS (mostS w) l else []

theorem drop_get {N : List Sp} {i : Nat} {s : Sp} {r : List Sp} (h : N.drop i = s :: r) : (spL N)[i]? = some (.agg [.int .u64 s.1, .int .u64 s.2]) ∧ N.drop (i + 1) = r ∧ i < N.length ∧ s ∈ N := by
  have h1 : N[i]? = some s := by
    have : (N.drop i)[0]? = some s := by rw [h]; rfl
    simpa using this
  have hi := (List.getElem?_eq_some_iff.1 h1).1
  refine ⟨by simp [spL, h1, spA], ?_, hi, List.mem_of_getElem? h1⟩
  have := List.drop_drop (i := 1) (j := i) (l := N)
  rw [h] at this
  rw [← this]; rfl

set_option maxRecDepth 4000 in
set_option maxHeartbeats 2000000 in
theorem not_run (l : List Sp) (hl : l.length < 1099511627775) (hok : OkS l) (w : Int) (L : List AObj) (hw : WFL L) :
    ACall Try.prog 18 [.slice (spL l), .int .i64 w] L (RowS (notW w l) L) := by
  refine ACall.walk (by kernel_rfl) Try.func18 rfl rfl rfl rfl [] (by kernel_rfl) kp18 100 fun c hP hn hL => ?_
  simp [Try.f18]
  refine AOps.callIs hP hn rfl [] 100 (greatest_run w _ (by simp [hw, hw.append_closed])) (by simp) (by simp <;> rfl) (by kernel_rfl) ?_
  by_cases h0 : okW w = true
  · simp [h0]
    refine AOps.callIs hP hn rfl [] 100 (norm_is l (by omega) hok w _ (by simp [hw, hw.append_closed])) (by simp) (by simp <;> rfl) (by kernel_rfl) ?_
    simp
    have hNl := normW_len w l
    have hNo : OkS (normW w l) := okS_norm hok
    have hm : mostS w < 18446744073709551616 := by unfold mostS; split; omega; split <;> omega
    have hF : ∀ s ∈ normW w l, s.2 ≤ mostS w := by
      rw [normW, if_pos h0]; exact fun s hs => ((norm_form _ _).2 s hs).2
    have hdef : notW w l = notN (mostS w) 0 (normW w l) := by rw [notW, if_pos h0, notS, normW, if_pos h0]
    rw [hdef]
    clear hdef
    generalize normW w l = N at *
    refine AGo.loopE (α := NO) (fun s => N.drop s.i = s.rest ∧ s.out ++ notN (mostS w) s.next s.rest = notN (mostS w) 0 N ∧ s.out.length ≤ s.i ∧ s.i ≤ N.length ∧ (s.nil = true ∨ s.esz = 2) ∧ (s.out ≠ [] → s.esz = 2 ∧ s.nil = false) ∧ 0 ≤ s.next ∧ s.next < 18446744073709551616)
      (fun s => s.out ++ [(s.next, mostS w)] = notN (mostS w) 0 N ∧ s.out.length ≤ N.length ∧ (s.nil = true ∨ s.esz = 2)) (fun s => s.rest.length)
      [4, 5, 7, 19, 20, 21] (fun s => [.own L.length s.ver 0 s.out.length, .int .u64 (mostS w), .int .u64 s.next, .slice (spL N), .int .i64 N.length, .int .i64 s.i])
      (fun s => L ++ [⟨s.ver, s.esz, s.nil, false, spL s.out⟩]) ⟨0, N, 0, [], 0, 0, true⟩ (by kernel_rfl) (by kernel_rfl) (by kernel_rfl) (by simp) (by simp) (by simp) ?_ ?_
    rotate_left
    · rintro ⟨i, rest, next, out, ver, esz, nil⟩ ⟨h1, h2, h3⟩
      simp only at h1 h2 h3
      refine AGo.go hP hn rfl [] kp18 100 (by kernel_rfl) ?_
      have ho1 : (out.length + 1) * 16 ≤ 35184372088832 := by omega
      have ho2 : out.length + 1 < 35184372088832 := by omega
      simp [-wrap_i64, h3, ho1, ho2]
      exact AGo.ret_rowS (i := 0) (ver := ver + 1) (esz := 2) (nil := false) hP Try.func18 hL hw (by simp [Try.f18, ← h1] <;> rfl) rfl (by simp [← h1, spL, spA]) (by simp)
    rintro ⟨i, rest, next, out, ver, esz, nil⟩ y z hR ⟨hd, h1, hol, hi, he1, he2, hn0, hn1⟩ ih hex
    simp only at hd h1 hol hi he1 he2 hn0 hn1
    refine AGo.go hP hn rfl [100000] kp18 100 (hR.ok _) ?_
    cases rest with
    | nil =>
      have hlt2 : ¬ ((i : Int) < N.length) := by
        have := congrArg List.length hd
        simp at this; omega
      simp [hlt2]
      exact AGo.again (hex ⟨i, [], next, out, ver, esz, nil⟩ ⟨by simpa [notN] using h1, by simp; omega, he1⟩) (by simp) (by simp)
    | cons s r =>
      obtain ⟨hg, hd', hlt, hmem⟩ := drop_get hd
      have hlt2 : (i : Int) < N.length := by omega
      have hso := hNo s hmem
      have hsF := hF s hmem
      have w1 : IntKind.i64.wrap ((i : Int) + 1) = ((i + 1 : Nat) : Int) := by rw [wrap_id (by omega) (by omega)]; simp
      have ho1 : (out.length + 1) * 16 ≤ 35184372088832 := by omega
      have ho2 : out.length + 1 < 35184372088832 := by omega
      by_cases h2 : next < s.1
      · have w2 : IntKind.u64.wrap (s.1 - 1) = s.1 - 1 := wrap_id64 (by omega) (by omega)
        by_cases h3 : s.2 = mostS w
        · have h1' : out ++ [(next, s.1 - 1)] = notN (mostS w) 0 N := by rw [← h1]; simp [notN, h2, h3]
          simp [-wrap_i64, -wrap_u64, hlt2, hg, h2, h3, w1, w2, he1, ho1, ho2]
          exact AGo.ret_rowS (i := 0) (ver := ver + 1) (esz := 2) (nil := false) hP Try.func18 hL hw (by simp [Try.f18, ← h1'] <;> rfl) rfl (by simp [← h1', spL, spA]) (by simp)
        · have h3' : (s.2 == mostS w) = false := by simpa using h3
          have w3 : IntKind.u64.wrap (s.2 + 1) = s.2 + 1 := wrap_id64 (by omega) (by omega)
          simp [-wrap_i64, -wrap_u64, hlt2, hg, h2, h3, h3', w1, w2, w3, he1, ho1, ho2]
          refine AGo.keep [4, 5, 7, 19, 20, 21] ?_
          simp
          refine AGo.trimTo (M := [_]) (N := [_, _]) hL hw (by simp [AV.idsL, AV.ids]) (by simp [AV.ids]) ?_
          exact AGo.again (ih ⟨i + 1, r, s.2 + 1, out ++ [(next, s.1 - 1)], ver + 1, 2, false⟩ (by simp) ⟨hd', by simp [← h1, notN, h2, h3], by simp; omega, by simp; omega, by simp, by simp, by simp; omega, by simp; omega⟩) (by simp) (by simp [spL, spA])
      · by_cases h3 : s.2 = mostS w
        · have h1' : out = notN (mostS w) 0 N := by rw [← h1]; simp [notN, h2, h3]
          simp [-wrap_i64, -wrap_u64, hlt2, hg, h2, h3, w1, he1, ho1, ho2]
          exact AGo.ret_rowS (i := 0) (ver := ver) (esz := esz) (nil := nil) hP Try.func18 hL hw (by simp [Try.f18, ← h1'] <;> rfl) rfl (by simp [← h1']) (by rw [← h1']; exact he2)
        · have h3' : (s.2 == mostS w) = false := by simpa using h3
          have w3 : IntKind.u64.wrap (s.2 + 1) = s.2 + 1 := wrap_id64 (by omega) (by omega)
          simp [-wrap_i64, -wrap_u64, hlt2, hg, h2, h3, h3', w1, w3, he1, ho1, ho2]
          refine AGo.keep [4, 5, 7, 19, 20, 21] ?_
          simp
          refine AGo.trimTo (M := [_]) (N := [_]) hL hw (by simp [AV.idsL, AV.ids]) (by simp [AV.ids]) ?_
          exact AGo.again (ih ⟨i + 1, r, s.2 + 1, out, ver, esz, nil⟩ (by simp) ⟨hd', by simp [← h1, notN, h2, h3], by simp; omega, by simp; omega, he1, he2, by simp; omega, by simp; omega⟩) (by simp) (by simp)
  · have h0' : okW w = false := by simpa using h0
    simp [h0']
    rw [show notW w l = [] by simp [notW, h0']]
    exact AGo.ret_rowS (i := 1) (ver := 0) (esz := 0) (nil := true) (l := []) hP Try.func18 hL hw (by simp [Try.f18] <;> rfl) rfl rfl (by simp)

def leastS (l : List Sp) : Int × Bool := match normW 64 l with
  | [] => (0, false)
  | s :: _ => (s.1, true)

theorem least_run (l : List Sp) (hl : l.length < 1099511627776) (hok : OkS l) (L : List AObj) (hw : WFL L) :
    ACall Try.prog 13 [.slice (spL l)] L (Is (.tup [.int .u64 (leastS l).1, .bool (leastS l).2]) L) := by
  refine ACall.walk (by kernel_rfl) Try.func13 rfl rfl rfl rfl [] (by kernel_rfl) kp13 100 fun c hP hn hL => ?_
  simp [Try.f13]
  refine AOps.callIs hP hn rfl [] 100 (norm_is l hl hok 64 _ (by simp [hw, hw.append_closed])) (by simp) (by simp <;> rfl) (by kernel_rfl) ?_
  unfold leastS
  generalize normW 64 l = N
  cases N with
  | nil =>
    simp
    exact AGo.ret_is hP Try.func13 hL hw (by simp [Try.f13] <;> rfl) rfl rfl rfl
  | cons s r =>
    have e1 : spL (s :: r) = .agg [.int .u64 s.1, .int .u64 s.2] :: spL r := rfl
    have e2 : ((r.length : Int) + 1 == 0) = false := by rw [beq_eq_false_iff_ne]; omega
    simp [e1, e2]
    exact AGo.ret_is hP Try.func13 hL hw (by simp [Try.f13] <;> rfl) rfl rfl rfl

def countN : Int → List Sp → Int
  | n, [] => n
  | n, s :: r => if s.1 = 0 ∧ s.2 = 18446744073709551615 then 18446744073709551615 else countN ((n + (s.2 - s.1 + 1)) % 18446744073709551616) r

structure CO where
  i : Nat
  rest : List Sp
  n : Int

theorem drop_get' {N : List Sp} {i : Nat} {s : Sp} {r : List Sp} (h : N.drop i = s :: r) : (spL N)[i]? = some (.agg [.int .u64 s.1, .int .u64 s.2]) ∧ N.drop (i + 1) = r ∧ i < N.length ∧ s ∈ N := by
  have h1 : N[i]? = some s := by
    have : (N.drop i)[0]? = some s := by rw [h]; rfl
    simpa using this
  have hi := (List.getElem?_eq_some_iff.1 h1).1
  refine ⟨by simp [spL, h1, spA], ?_, hi, List.mem_of_getElem? h1⟩
  have := List.drop_drop (i := 1) (j := i) (l := N)
  rw [h] at this
  rw [← this]; rfl

set_option maxRecDepth 4000 in
set_option maxHeartbeats 1000000 in
theorem count_run (l : List Sp) (hl : l.length < 1099511627776) (hok : OkS l) (L : List AObj) (hw : WFL L) :
    ACall Try.prog 20 [.slice (spL l)] L (Is (.int .u64 (countN 0 (normW 64 l))) L) := by
  refine ACall.walk (by kernel_rfl) Try.func20 rfl rfl rfl rfl [] (by kernel_rfl) kp20 100 fun c hP hn hL => ?_
  simp [Try.f20]
  refine AOps.callIs hP hn rfl [] 100 (norm_is l hl hok 64 _ (by simp [hw, hw.append_closed])) (by simp) (by simp <;> rfl) (by kernel_rfl) ?_
  have hNl := normW_len 64 l
  have hNo : OkS (normW 64 l) := okS_norm hok
  generalize normW 64 l = N at *
  simp
  refine AGo.loopE (α := CO) (fun s => N.drop s.i = s.rest ∧ countN s.n s.rest = countN 0 N ∧ s.i ≤ N.length) (fun s => s.n = countN 0 N) (fun s => s.rest.length)
    [2, 6, 7, 8] (fun s => [.int .u64 s.n, .slice (spL N), .int .i64 N.length, .int .i64 s.i]) (fun s => L) ⟨0, N, 0⟩ (by kernel_rfl) (by kernel_rfl) (by kernel_rfl) (by simp) (by simp) (by simp) ?_ ?_
  rotate_left
  · rintro ⟨i, rest, n⟩ h1
    simp only at h1
    refine AGo.go hP hn rfl [] kp20 100 (by kernel_rfl) ?_
    simp
    exact AGo.ret_is hP Try.func20 hL hw (by simp [Try.f20] <;> rfl) rfl rfl (by rw [h1])
  rintro ⟨i, rest, n⟩ y z hR ⟨hd, h1, hi⟩ ih hex
  simp only at hd h1 hi
  refine AGo.go hP hn rfl [100000] kp20 100 (hR.ok _) ?_
  cases rest with
  | nil =>
    have hlt2 : ¬ ((i : Int) < N.length) := by
      have := congrArg List.length hd
      simp at this; omega
    simp [hlt2]
    exact AGo.again (hex ⟨i, [], n⟩ (by simpa [countN] using h1)) (by simp) (by simp)
  | cons s r =>
    obtain ⟨hg, hd', hlt, hmem⟩ := drop_get' hd
    have hlt2 : (i : Int) < N.length := by omega
    have hso := hNo s hmem
    have w1 : IntKind.i64.wrap ((i : Int) + 1) = ((i + 1 : Nat) : Int) := by rw [wrap_id (by omega) (by omega)]; simp
    have w2 : IntKind.u64.wrap (n + IntKind.u64.wrap (IntKind.u64.wrap (s.2 - s.1) + 1)) = (n + (s.2 - s.1 + 1)) % 18446744073709551616 := by simp only [wrap_u64]; omega
    by_cases h2 : s.1 = 0
    · have h2b : (s.1 == 0) = true := by simpa using h2
      by_cases h3 : s.2 = 18446744073709551615
      · have h3b : (s.2 == 18446744073709551615) = true := by simpa using h3
        simp [-wrap_i64, -wrap_u64, -beq_iff_eq, hlt2, hg, h2b, h3b, w1]
        exact AGo.ret_isM hP Try.func20 hL hw (by simp [Try.f20] <;> rfl) rfl rfl (by rw [← h1]; simp [countN, h2, h3])
      · have h3b : (s.2 == 18446744073709551615) = false := by simpa using h3
        have h1' : countN ((n + (s.2 - s.1 + 1)) % 18446744073709551616) r = countN 0 N := by rw [← h1]; simp [countN, h3]
        simp [-wrap_i64, -wrap_u64, -beq_iff_eq, hlt2, hg, h2b, h3b, w1]
        refine AGo.keep [2, 6, 7, 8] ?_
        simp [-wrap_u64]
        refine AGo.trimTo (M := []) (N := [_]) hL hw (by simp [AV.idsL, AV.ids]) (by simp [AV.ids]) ?_
        exact AGo.again (ih ⟨i + 1, r, _⟩ (by simp) ⟨hd', h1', by simp; omega⟩) (by simp [-wrap_u64, w2]) (by simp)
    · have h2b : (s.1 == 0) = false := by simpa using h2
      have h1' : countN ((n + (s.2 - s.1 + 1)) % 18446744073709551616) r = countN 0 N := by rw [← h1]; simp [countN, h2]
      simp [-wrap_i64, -wrap_u64, -beq_iff_eq, hlt2, hg, h2b, w1]
      refine AGo.keep [2, 6, 7, 8] ?_
      simp [-wrap_u64]
      refine AGo.trimTo (M := []) (N := [_]) hL hw (by simp [AV.idsL, AV.ids]) (by simp [AV.ids]) ?_
      exact AGo.again (ih ⟨i + 1, r, _⟩ (by simp) ⟨hd', h1', by simp; omega⟩) (by simp [-wrap_u64, w2]) (by simp)

/-- Is a number one of those that are told? -/
def ofB (op k n : Int) : Bool := if op = 16 then n == k else if op = 32 then decide (k < n) else if op = 48 then decide (k ≤ n) else false


/-- The numbers of which something is so, as one span. -/
def ofL (op k : Int) : List Sp :=
  if op = 16 then [(k, k)] else if op = 32 then (if k = 18446744073709551615 then [] else [(k + 1, 18446744073709551615)]) else if op = 48 then [(k, 18446744073709551615)] else []

theorem normW_nil (w : Int) : normW w [] = [] := by
  unfold normW; split <;> rfl

set_option maxRecDepth 4000 in
theorem of_run (op k : Int) (hk : 0 ≤ k ∧ k < 18446744073709551616) (w : Int) (L : List AObj) (hw : WFL L) :
    ACall Try.prog 19 [.int .i64 op, .int .u64 k, .int .i64 w] L (Is (.slice (spL (normW w (ofL op k)))) L) := by
  refine ACall.walk (by kernel_rfl) Try.func19 rfl rfl rfl rfl [] (by kernel_rfl) kp19 100 fun c hP hn hL => ?_
  by_cases h1 : op = 16
  · subst h1
    simp [Try.f19]
    refine AOps.freeze (L.length + 1) (by simp; rfl) ?_
    simp [frzL]
    refine AOps.callIs hP hn rfl [] 100 (norm_is [(k, k)] (by simp) (by intro s hs; simp at hs; subst hs; exact ⟨hk, hk⟩) w _ (by simp [hw, hw.append_closed])) (by simp) (by simp <;> rfl) (by kernel_rfl) ?_
    simp
    exact AGo.ret_isM hP Try.func19 hL hw (by simp [Try.f19] <;> rfl) rfl (by simp [AV.closed]) (by simp [ofL])
  · have e1 : (op == 16) = false := by simpa using h1
    by_cases h2 : op = 32
    · subst h2
      by_cases h4 : k = 18446744073709551615
      · subst h4
        simp [Try.f19]
        refine AGo.freeze (L.length + 1) (by simp; rfl) ?_
        refine AGo.keep [6] ?_
        simp [frzL]
        exact AGo.ret_isM hP Try.func19 hL hw (by simp [Try.f19] <;> rfl) rfl rfl (by simp [ofL, normW_nil])
      · have e4 : (k == 18446744073709551615) = false := by simpa using h4
        have w4 : IntKind.u64.wrap (k + 1) = k + 1 := wrap_id64 (by omega) (by omega)
        simp [-wrap_u64, Try.f19, e4, h4, w4]
        refine AOps.freeze (L.length + 1) (by simp; rfl) ?_
        simp [frzL]
        refine AOps.callIs hP hn rfl [] 100 (norm_is [(k + 1, 18446744073709551615)] (by simp) (by intro s hs; simp at hs; subst hs; exact ⟨by simp only; omega, by simp⟩) w _ (by simp [hw, hw.append_closed])) (by simp) (by simp <;> rfl) (by kernel_rfl) ?_
        simp
        exact AGo.ret_isM hP Try.func19 hL hw (by simp [Try.f19] <;> rfl) rfl (by simp [AV.closed]) (by simp [ofL, h4])
    · have e2 : (op == 32) = false := by simpa using h2
      by_cases h3 : op = 48
      · subst h3
        simp [Try.f19]
        refine AOps.freeze (L.length + 1) (by simp; rfl) ?_
        simp [frzL]
        refine AOps.callIs hP hn rfl [] 100 (norm_is [(k, 18446744073709551615)] (by simp) (by intro s hs; simp at hs; subst hs; exact ⟨hk, by simp⟩) w _ (by simp [hw, hw.append_closed])) (by simp) (by simp <;> rfl) (by kernel_rfl) ?_
        simp
        exact AGo.ret_isM hP Try.func19 hL hw (by simp [Try.f19] <;> rfl) rfl (by simp [AV.closed]) (by simp [ofL])
      · have e3 : (op == 48) = false := by simpa using h3
        simp [Try.f19, e1, e2, e3, h1, h2, h3]
        refine AGo.freeze (L.length + 1) (by simp; rfl) ?_
        refine AGo.keep [6] ?_
        simp [frzL]
        exact AGo.ret_isM hP Try.func19 hL hw (by simp [Try.f19] <;> rfl) rfl rfl (by simp [ofL, h1, h2, h3, normW_nil])

end Go.Proofs.Ytpneikbihcoaaab.Vm

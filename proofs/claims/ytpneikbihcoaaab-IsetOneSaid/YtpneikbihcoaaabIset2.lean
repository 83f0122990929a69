/- Norm. -/
import Derived.Test.YtpneikbihcoaaabIset1
import Derived.Test.YtpneikbihcoaaabVm29
open Go Go.Proofs Go.Proofs.Ytpneikbihcoaaab
namespace Go.Proofs.Ytpneikbihcoaaab.Vm
set_option linter.unusedVariables false
set_option linter.unusedSimpArgs false

def OkS (l : List Sp) : Prop := ∀ s ∈ l, (0 ≤ s.1 ∧ s.1 < 18446744073709551616) ∧ 0 ≤ s.2 ∧ s.2 < 18446744073709551616

def normW (w : Int) (l : List Sp) : List Sp := if okW w = true then normS (mostS w) l else []

theorem AGo.ret_rowS {c : Ctx} {f : FuncId} {k : List Item} {σ : AState} {P : Program} {fn : Func} {L M : List AObj} {i ver esz : Nat} {nil : Bool} {l : List Sp} (hP : c.P = P) (hf : P.funcs[f]? = some fn) (h0 : c.L0 = L) (hwf : WFL L)
    (hr : resAV P σ fn.results.toList = some (.own (L.length + i) ver 0 l.length)) (hL : σ.L = L ++ M) (hM : M[i]? = some ⟨ver, esz, nil, false, spL l⟩) (hn : l ≠ [] → esz = 2 ∧ nil = false) : AGo c f (.code .ret :: k) σ (RowS l L) :=
  AGo.ret_row hP hf h0 hwf hr hL hM (spL_closed l) ⟨ver, esz, nil, rfl, rfl, hn⟩

structure NS where
  i : Nat
  acc : List Sp
  ver : Nat
  esz : Nat
  nil : Bool

set_option maxRecDepth 4000 in
set_option maxHeartbeats 2000000 in
theorem norm_run (l : List Sp) (hl : l.length < 1099511627776) (hok : OkS l) (w : Int) (L : List AObj) (hw : WFL L) :
    ACall Try.prog 6 [.slice (spL l), .int .i64 w] L (RowS (normW w l) L) := by
  refine ACall.walk (by kernel_rfl) Try.func6 rfl rfl rfl rfl [] (by kernel_rfl) kp6 100 fun c hP hn hL => ?_
  simp [Try.f6]
  refine AOps.callIs hP hn rfl [] 100 (greatest_run w _ (by simp [hw, hw.append_closed])) (by simp) (by simp <;> rfl) (by kernel_rfl) ?_
  by_cases h0 : okW w = true
  · simp [h0]
    refine AOps.callG hP hn rfl [] 100 (clone_run l hl _ (by simp [hw.append_closed, hw])) (by simp) (by simp <;> rfl) (by kernel_rfl) ?_
    rintro r L' ⟨vA, eA, nA, rfl, rfl, hA⟩
    simp
    refine AOps.callG hP hn rfl [] 100 (sort_run l (by omega) _ (L.length + 1) vA eA nA (by simp) (fun h => (hA h).1)) (by simp) (by simp <;> rfl) (by kernel_rfl) ?_
    rintro r L' ⟨rfl, l', hp1, hp2, hp3, rfl⟩
    simp
    have hok' : ∀ i, i < l'.length → ((0 ≤ (l'.getD i (0, 0)).1 ∧ (l'.getD i (0, 0)).1 < 18446744073709551616) ∧ 0 ≤ (l'.getD i (0, 0)).2 ∧ (l'.getD i (0, 0)).2 < 18446744073709551616) := fun i hi => by
      have hm : l'.getD i (0, 0) ∈ l' := by simp [List.getD, hi]
      exact hok _ ((hp1 _).1 hm)
    have hm0 : 0 ≤ mostS w ∧ mostS w < 18446744073709551616 := by
      unfold mostS
      split
      · omega
      · split <;> omega
    refine AGo.loopE (α := NS) (fun s => s.i ≤ l'.length ∧ s.acc = (l'.take s.i).foldl (stepN (mostS w)) [] ∧ s.acc.length ≤ s.i ∧ (s.nil = true ∨ s.esz = 2) ∧ (s.acc ≠ [] → s.esz = 2 ∧ s.nil = false) ∧ ∀ q ∈ s.acc, 0 ≤ q.2)
      (fun s => s.acc = l'.foldl (stepN (mostS w)) [] ∧ (s.acc ≠ [] → s.esz = 2 ∧ s.nil = false)) (fun s => l'.length - s.i)
      [4, 5, 22, 23, 24] (fun s => [.own L.length s.ver 0 s.acc.length, .int .u64 (mostS w), .own (L.length + 1) vA 0 l.length, .int .i64 l.length, .int .i64 s.i])
      (fun s => L ++ [⟨s.ver, s.esz, s.nil, false, spL s.acc.reverse⟩, ⟨vA, eA, nA, false, spL l'⟩]) ⟨0, [], 0, 0, true⟩ (by kernel_rfl) (by kernel_rfl) (by kernel_rfl) (by simp) (by simp) (by simp) ?_ ?_
    rotate_left
    · rintro ⟨i, acc, ver, esz, nil⟩ ⟨hacc, he⟩
      simp only at hacc he
      refine AGo.go hP hn rfl [] kp6 100 (by kernel_rfl) ?_
      simp
      have hout : acc.reverse = normW w l := by
        rw [normW, if_pos h0, ← norm_sorted hp1 hp3, normR, hacc]
      have hlen : acc.length = (normW w l).length := by rw [← hout]; simp
      rw [hlen, hout]
      exact AGo.ret_rowS (i := 0) (ver := ver) (esz := esz) (nil := nil) hP Try.func6 hL hw (by simp [Try.f6] <;> rfl) rfl rfl (by rw [← hout]; simpa using he)
    rintro ⟨i, acc, ver, esz, nil⟩ y z hR ⟨hi, hacc, hal, he1, he2, hq⟩ ih hex
    simp only at hi hacc hal he1 he2 hq
    refine AGo.go hP hn rfl [100000] kp6 100 (hR.ok _) ?_
    by_cases hlt : i < l'.length
    · have hlt1 : i < l.length := by omega
      have hlt2 : (i : Int) < l.length := by omega
      have hx := hok' i hlt
      have hnA := hA (by rintro rfl; simp at hlt1)
      obtain ⟨rfl, rfl⟩ := hnA
      have hg := spL_get hlt
      have hst : (l'.take (i + 1)).foldl (stepN (mostS w)) [] = stepN (mostS w) acc (l'.getD i (0, 0)) := by
        rw [List.take_add_one, List.foldl_append, ← hacc]
        simp [List.getD, hlt]
      generalize l'.getD i (0, 0) = x at *
      obtain ⟨x1, x2⟩ := x
      simp only at hx hg hst
      have w1 : IntKind.i64.wrap ((i : Int) + 1) = ((i + 1 : Nat) : Int) := by rw [wrap_id (by omega) (by omega)]; simp
      obtain ⟨h, hh⟩ : ∃ h, h = min x2 (mostS w) := ⟨_, rfl⟩
      have hh0 : 0 ≤ h := by omega
      have hif : (if mostS w < x2 then mostS w else x2) = h := by rw [hh]; split <;> omega
      by_cases h1 : h < x1
      · simp [-wrap_i64, hlt1, hlt2, hg, hif, h1, w1, minAV]
        refine AGo.keep [4, 5, 22, 23, 24] ?_
        simp
        refine AGo.trimTo (M := [_, _]) (N := [_]) hL hw (by simp [AV.idsL, AV.ids]) (by simp [AV.ids]) ?_
        have hs1 : stepN (mostS w) acc (x1, x2) = acc := by simp [stepN, ← hh, h1]
        exact AGo.again (ih ⟨i + 1, acc, ver, esz, nil⟩ (by simp; omega) ⟨by simp; omega, by simp [hst, hs1], by simp; omega, he1, he2, hq⟩) (by simp) (by simp)
      · cases acc with
        | nil =>
          have hs1 : stepN (mostS w) [] (x1, x2) = [(x1, h)] := by simp [stepN, ← hh, h1]
          simp [-wrap_i64, hlt1, hlt2, hg, hif, h1, w1, minAV, he1]
          refine AGo.keep [4, 5, 22, 23, 24] ?_
          simp
          refine AGo.trimTo (M := [_, _]) (N := [_, _]) hL hw (by simp [AV.idsL, AV.ids]) (by simp [AV.ids]) ?_
          exact AGo.again (ih ⟨i + 1, [(x1, h)], ver + 1, 2, false⟩ (by simp; omega) ⟨by simp; omega, by simp [hst, hs1], by simp, by simp, by simp, by simp; omega⟩) (by simp) (by simp [spL, spA])
        | cons t r =>
          obtain ⟨rfl, rfl⟩ := he2 (by simp)
          have hs1 : stepN (mostS w) (t :: r) (x1, x2) = if x1 ≤ t.2 + 1 then (t.1, max t.2 h) :: r else (x1, h) :: t :: r := by simp [stepN, ← hh, h1]
          have w2 : IntKind.i64.wrap (r.length : Int) = (r.length : Int) := wrap_id (by simp at hal; omega) (by simp at hal; omega)
          have ht2 : 0 ≤ t.2 := hq t (by simp)
          have hq1 : ∀ q ∈ ((t.1, max t.2 h) :: r : List Sp), 0 ≤ q.2 := fun q hq' => by
            rcases List.mem_cons.1 hq' with h9 | h9
            · rw [h9]; simp only; omega
            · exact hq q (List.mem_cons_of_mem _ h9)
          have hq2 : ∀ q ∈ ((x1, h) :: t :: r : List Sp), 0 ≤ q.2 := fun q hq' => by
            rcases List.mem_cons.1 hq' with h9 | h9
            · rw [h9]; exact hh0
            · exact hq q h9
          obtain ⟨E, hE⟩ : ∃ E, E = spL (r.reverse ++ [t]) := ⟨_, rfl⟩
          have hgt : E[r.length]? = some (.agg [.int .u64 t.1, .int .u64 t.2]) := by simp [hE, spL, spA]
          have hEl : r.length + 1 ≤ E.length := by simp [hE]
          have hEt : E.take (r.length + 1) = E := List.take_of_length_le (by simp [hE])
          have hEi : AV.idsL (fun o => decide (o < L.length + 2)) E = true := by rw [hE]; simp
          have hrl : (r.length : Int) < (r.length : Int) + 1 := by omega
          have hset : ∀ q, E.set r.length (.agg [.int .u64 t.1, .int .u64 q]) = spL (r.reverse ++ [(t.1, q)]) := fun q => by simp [hE, spL, spA]
          have hmx : (if t.2 < h then h else t.2) = max t.2 h := by split <;> omega
          have hm1 : ((r.length : Int) + 1 + 1 < 35184372088832) := by simp at hal; omega
          have hm2 : r.length + 1 + 1 < 35184372088832 := by simp at hal; omega
          have hm3 : (r.length + 1 + 1) * 16 ≤ 35184372088832 := by simp at hal; omega
          by_cases h2 : x1 ≤ t.2
          · simp [-wrap_i64, hlt1, hlt2, hg, hif, h1, w1, w2, minAV, ← hE, hgt, hEl, hEt, h2, hrl, hset, maxAV, hmx]
            refine AGo.keep [4, 5, 22, 23, 24] ?_
            simp
            refine AGo.trimTo (M := [_, _]) (N := [_]) hL hw (by simp [AV.idsL, AV.ids]) (by simp [AV.ids]) ?_
            have h3 : x1 ≤ t.2 + 1 := by omega
            exact AGo.again (ih ⟨i + 1, (t.1, max t.2 h) :: r, ver, 2, false⟩ (by simp; omega) ⟨by simp; omega, by simp [hst, hs1, h3], by simp at hal ⊢; omega, by simp, by simp, hq1⟩) (by simp) (by simp)
          · have w3 : IntKind.u64.wrap (x1 - t.2) = x1 - t.2 := wrap_id64 (by omega) (by omega)
            by_cases h3 : x1 - t.2 = 1
            · simp [-wrap_i64, -wrap_u64, hlt1, hlt2, hg, hif, h1, w1, w2, minAV, ← hE, hgt, hEl, hEt, h2, hrl, hset, maxAV, hmx, w3, h3, show IntKind.u64.wrap 1 = 1 from rfl]
              refine AGo.keep [4, 5, 22, 23, 24] ?_
              simp
              refine AGo.trimTo (M := [_, _]) (N := [_]) hL hw (by simp [AV.idsL, AV.ids]) (by simp [AV.ids]) ?_
              have h3 : x1 ≤ t.2 + 1 := by omega
              exact AGo.again (ih ⟨i + 1, (t.1, max t.2 h) :: r, ver, 2, false⟩ (by simp; omega) ⟨by simp; omega, by simp [hst, hs1, h3], by simp at hal ⊢; omega, by simp, by simp, hq1⟩) (by simp) (by simp)
            · simp [-wrap_i64, -wrap_u64, hlt1, hlt2, hg, hif, h1, w1, w2, minAV, ← hE, hgt, hEl, hEt, h2, hrl, hset, maxAV, hmx, w3, h3, hm1, hm2, hm3]
              refine AGo.keep [4, 5, 22, 23, 24] ?_
              simp
              refine AGo.trimTo (M := [_, _]) (N := [_, _]) hL hw (by simp [AV.idsL, AV.ids, hEi]) (by simp [AV.ids]) ?_
              have h3 : ¬ x1 ≤ t.2 + 1 := by omega
              exact AGo.again (ih ⟨i + 1, (x1, h) :: t :: r, ver + 1, 2, false⟩ (by simp; omega) ⟨by simp; omega, by simp [hst, hs1, h3], by simp at hal ⊢; omega, by simp, by simp, hq2⟩) (by simp) (by simp [hE, spL, spA])
    · have hil : i = l'.length := by omega
      subst hil
      have hlt2 : ¬ ((l'.length : Int) < l.length) := by omega
      simp [hp2]
      refine AGo.again (hex ⟨l'.length, acc, ver, esz, nil⟩ ⟨by simpa using hacc, he2⟩) (by simp [hp2]) (by simp)
  · have h0' : okW w = false := by simpa using h0
    simp [h0']
    rw [show normW w l = [] by simp [normW, h0']]
    exact AGo.ret_rowS (i := 1) (ver := 0) (esz := 0) (nil := true) (l := []) hP Try.func6 hL hw (by simp [Try.f6] <;> rfl) rfl rfl (by simp)

end Go.Proofs.Ytpneikbihcoaaab.Vm

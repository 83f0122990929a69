/- Concat, Or, Right, Edges, High, Under. -/
import Derived.Test.YtpneikbihcoaaabIset7
import Derived.Test.YtpneikbihcoaaabIset3
open Go Go.Proofs Go.Proofs.Ytpneikbihcoaaab
namespace Go.Proofs.Ytpneikbihcoaaab.Vm
set_option linter.unusedVariables false
set_option linter.unusedSimpArgs false

/-- A new row without elements. -/
def NewRow (L : List AObj) (r : AV) (L' : List AObj) : Prop := ∃ esz nil, r = .own L.length 0 0 0 ∧ L' = L ++ [⟨0, esz, nil, false, []⟩] ∧ (nil = true ∨ esz = 2)

set_option maxRecDepth 8000 in
theorem grow_run (n : Int) (h0 : 0 ≤ n) (h1 : n ≤ 2199023255552) (L : List AObj) (hw : WFL L) : ACall Try.prog 38 [.nilS, .int .i64 n] L (NewRow L) := by
  refine ACall.walk (by kernel_rfl) Try.func38 rfl rfl rfl rfl [] (by kernel_rfl) kp38 100 fun c hP hn hL => ?_
  have hlt : ¬ n < 0 := by omega
  have wn : IntKind.i64.wrap n = n := wrap_id (by omega) (by omega)
  simp [-wrap_i64, Try.f38, hlt]
  refine AOps.goodG hP hn rfl [] 100 (fun a w β hr => good_capNil hr rfl rfl rfl rfl (by rw [hP]; rfl) (by simp)) (by simp) (by kernel_rfl) ?_
  have w0 : IntKind.i64.wrap 0 = 0 := rfl
  by_cases hn0 : n = 0
  · subst hn0
    simp
    exact AGo.ret_row (i := 1) hP Try.func38 hL hw (by simp [Try.f38] <;> rfl) rfl rfl rfl ⟨0, true, rfl, rfl, .inl rfl⟩
  · have hp : 0 < n := by omega
    simp [-wrap_i64, wn, w0, hp]
    refine AOps.goodG hP hn rfl [] 100 (fun a w β hr => good_capNil hr rfl rfl rfl rfl (by rw [hP]; rfl) (by simp)) (by simp) (by kernel_rfl) ?_
    simp [-wrap_i64]
    refine AOps.goodG hP hn rfl [] 100 (fun a w β hr => good_sliceNil (e := 38) (esz := 2) (eb := 16) (n := 1) hr rfl (by rw [hP]; rfl) (by rw [hP]; exact tk22) (by decide) (by simp) (by simp)) (by simp) (by kernel_rfl) ?_
    simp [-wrap_i64]
    refine AOps.goodG hP hn rfl [] 100 (fun a w β hr => good_zeros (e := 38) (esz := 2) (eb := 16) (n := 1) (nu := 1) (m := n) hr rfl rfl rfl rfl (by rw [hP]; exact tk22) (by rw [hP]; exact tk3) (by rw [hP]; rfl) (by simp) (by simp) (by decide) hp (by omega) (by omega)) (by simp) (by kernel_rfl) ?_
    have hmx : 0 ≤ max n 0 := by omega
    simp [-wrap_i64, hmx]
    exact AGo.ret_row (i := 1) hP Try.func38 hL hw (by simp [Try.f38] <;> rfl) rfl rfl rfl ⟨2, false, rfl, rfl, .inr rfl⟩

set_option maxRecDepth 8000 in
set_option maxHeartbeats 1000000 in
theorem concat_run (a b : List Sp) (ha : a.length < 1099511627776) (hb : b.length < 1099511627776) (L : List AObj) (hw : WFL L) :
    ACall Try.prog 33 [.slice [.slice (spL a), .slice (spL b)]] L (RowS (a ++ b) L) := by
  refine ACall.walk (by kernel_rfl) Try.func33 rfl rfl rfl rfl [] (by kernel_rfl) kp33 100 fun c hP hn hL => ?_
  have wa : IntKind.i64.wrap (a.length : Int) = a.length := wrap_id (by omega) (by omega)
  have wab : IntKind.i64.wrap ((a.length : Int) + b.length) = (a.length : Int) + b.length := wrap_id (by omega) (by omega)
  have w1 : IntKind.i64.wrap 1 = 1 := rfl
  have w2 : IntKind.i64.wrap 2 = 2 := rfl
  have ha0 : ¬ ((a.length : Int) < 0) := by omega
  have hab0 : ¬ ((a.length : Int) + b.length < 0) := by omega
  simp [Try.f33]
  refine AGo.loop (AGo.go hP hn rfl [] kp33 100 (by kernel_rfl) ?_)
  simp [-wrap_i64, wa, wab, ha0, hab0, w1, w2]
  refine AGo.inLoop (AGo.go hP hn rfl [] kp33 100 (by kernel_rfl) ?_)
  simp [-wrap_i64, wa, wab, ha0, hab0, w1, w2]
  refine AGo.inLoop (AGo.go hP hn rfl [] kp33 100 (by kernel_rfl) ?_)
  simp [-wrap_i64, wa, wab, ha0, hab0, w1, w2]
  refine AOps.callG hP hn rfl [] 100 (grow_run (a.length + b.length) (by omega) (by omega) _ (by simp [hw, hw.append_closed])) (by simp) (by simp <;> rfl) (by kernel_rfl) ?_
  rintro r L' ⟨esz, nil, rfl, rfl, he⟩
  simp [-wrap_i64]
  have hl1 : a.length * 16 ≤ 35184372088832 := by omega
  have hl2 : a.length < 35184372088832 := by omega
  have hl3 : b.length * 16 ≤ 35184372088832 := by omega
  have hl4 : b.length < 35184372088832 := by omega
  have hl5 : (a.length + b.length) * 16 ≤ 35184372088832 := by omega
  have hl6 : a.length + b.length < 35184372088832 := by omega
  by_cases ea : a = []
  · subst ea
    by_cases eb : b = []
    · subst eb
      refine AGo.loop (AGo.go hP hn rfl [] kp33 100 (by kernel_rfl) ?_)
      simp [-wrap_i64, he, w1, w2]
      refine AGo.inLoop (AGo.go hP hn rfl [] kp33 100 (by kernel_rfl) ?_)
      simp [-wrap_i64, he, w1, w2]
      refine AGo.inLoop (AGo.go hP hn rfl [] kp33 100 (by kernel_rfl) ?_)
      simp [-wrap_i64, he, w1, w2]
      exact AGo.ret_rowS (i := 1) (ver := 0) (esz := esz) (nil := nil) (l := []) hP Try.func33 hL hw (by simp [Try.f33] <;> rfl) rfl rfl (by simp)
    · refine AGo.loop (AGo.go hP hn rfl [] kp33 100 (by kernel_rfl) ?_)
      simp [-wrap_i64, he, w1, w2]
      refine AGo.inLoop (AGo.go hP hn rfl [] kp33 100 (by kernel_rfl) ?_)
      simp [-wrap_i64, he, w1, w2, eb, hl3, hl4]
      refine AGo.inLoop (AGo.go hP hn rfl [] kp33 100 (by kernel_rfl) ?_)
      simp [-wrap_i64, he, w1, w2]
      exact AGo.ret_rowS (i := 1) (ver := 1) (esz := 2) (nil := false) (l := b) hP Try.func33 hL hw (by simp [Try.f33] <;> rfl) rfl rfl (by simp)
  · by_cases eb : b = []
    · subst eb
      refine AGo.loop (AGo.go hP hn rfl [] kp33 100 (by kernel_rfl) ?_)
      simp [-wrap_i64, he, w1, w2, ea, hl1, hl2]
      refine AGo.inLoop (AGo.go hP hn rfl [] kp33 100 (by kernel_rfl) ?_)
      simp [-wrap_i64, he, w1, w2, ea, hl1, hl2]
      refine AGo.inLoop (AGo.go hP hn rfl [] kp33 100 (by kernel_rfl) ?_)
      simp [-wrap_i64, he, w1, w2]
      exact AGo.ret_rowS (i := 1) (ver := 1) (esz := 2) (nil := false) (l := a) hP Try.func33 hL hw (by simp [Try.f33] <;> rfl) rfl rfl (by simp)
    · refine AGo.loop (AGo.go hP hn rfl [] kp33 100 (by kernel_rfl) ?_)
      simp [-wrap_i64, he, w1, w2, ea, hl1, hl2]
      refine AGo.inLoop (AGo.go hP hn rfl [] kp33 100 (by kernel_rfl) ?_)
      simp [-wrap_i64, he, w1, w2, ea, eb, hl5, hl6]
      refine AGo.inLoop (AGo.go hP hn rfl [] kp33 100 (by kernel_rfl) ?_)
      simp [-wrap_i64, he, w1, w2, spL_append]
      exact AGo.ret_rowS (i := 1) (ver := 2) (esz := 2) (nil := false) (l := a ++ b) hP Try.func33 hL hw (by simp [Try.f33] <;> rfl) rfl rfl (by simp)

theorem okS_append {a b : List Sp} (ha : OkS a) (hb : OkS b) : OkS (a ++ b) := fun s hs => by
  rcases List.mem_append.1 hs with h | h
  · exact ha s h
  · exact hb s h

set_option maxRecDepth 4000 in
theorem or_run (a b : List Sp) (ha : a.length < 274877906944) (hb : b.length < 274877906944) (hoa : OkS a) (hob : OkS b) (L : List AObj) (hw : WFL L) :
    ACall Try.prog 17 [.slice (spL a), .slice (spL b)] L (Is (.slice (spL (orS a b))) L) := by
  refine ACall.walk (by kernel_rfl) Try.func17 rfl rfl rfl rfl [] (by kernel_rfl) kp17 100 fun c hP hn hL => ?_
  simp [Try.f17]
  refine AOps.freeze (L.length + 1) (by simp; rfl) ?_
  simp [frzL]
  refine AOps.callIs hP hn rfl [] 100 ((concat_run a b (by omega) (by omega) _ (by simp [hw, hw.append_closed, AV.closed, AV.closedL])).rowS (by simp [hw, hw.append_closed, AV.closed, AV.closedL])) (by simp) (by simp <;> rfl) (by kernel_rfl) ?_
  simp
  refine AOps.callIs hP hn rfl [] 100 (norm_is (a ++ b) (by simp; omega) (okS_append hoa hob) 64 _ (by simp [hw, hw.append_closed, AV.closed, AV.closedL])) (by simp) (by simp <;> rfl) (by kernel_rfl) ?_
  simp
  exact AGo.ret_isM hP Try.func17 hL hw (by simp [Try.f17] <;> rfl) rfl (by simp [AV.closed]) (by rfl)

theorem right_run (l : List Sp) (hl : l.length < 1099511627776) (hok : OkS l) (w : Int) (L : List AObj) (hw : WFL L) :
    ACall Try.prog 14 [.slice (spL l), .int .i64 w] L (Is (.bool (okW w && sameS (normW w l) l)) L) := by
  refine ACall.walk (by kernel_rfl) Try.func14 rfl rfl rfl rfl [] (by kernel_rfl) kp14 100 fun c hP hn hL => ?_
  simp [Try.f14]
  refine AOps.callIs hP hn rfl [] 100 (greatest_run w _ (by simp [hw, hw.append_closed])) (by simp) (by simp <;> rfl) (by kernel_rfl) ?_
  by_cases h0 : okW w = true
  · simp [h0]
    refine AOps.callIs hP hn rfl [] 100 (norm_is l hl hok w _ (by simp [hw, hw.append_closed])) (by simp) (by simp <;> rfl) (by kernel_rfl) ?_
    simp
    refine AOps.callIs hP hn rfl [] 100 (equal_run (normW w l) l (by have := normW_len w l; omega) _ (by simp [hw, hw.append_closed])) (by simp) (by simp <;> rfl) (by kernel_rfl) ?_
    simp
    exact AGo.ret_is hP Try.func14 hL hw (by simp [Try.f14] <;> rfl) rfl rfl (by simp)
  · have h0' : okW w = false := by simpa using h0
    simp [h0']
    exact AGo.ret_is hP Try.func14 hL hw (by simp [Try.f14] <;> rfl) rfl rfl (by simp)

/-! ### Edges -/

def u64L (l : List Int) : List AV := l.map fun n => .int .u64 n
@[simp] theorem u64L_len (l : List Int) : (u64L l).length = l.length := by simp [u64L]
@[simp] theorem u64L_nil : u64L [] = [] := rfl
@[simp] theorem u64L_closed (l : List Int) : AV.closedL (u64L l) = true := AV.closedL_map _ (fun s => rfl) l
@[simp] theorem u64L_ids (l : List Int) (p : Nat → Bool) : AV.idsL p (u64L l) = true := AV.idsL_closed _ _ (u64L_closed l)
@[simp] theorem u64L_all (l : List Int) : ((u64L l).all fun x => x.size == 1) = true := by simp [u64L, AV.size]
@[simp] theorem u64L_size (l : List Int) : ∀ x ∈ u64L l, x.size = 1 := fun x hx => by
  obtain ⟨s, _, rfl⟩ := List.mem_map.1 hx; rfl

def edge (s : Sp) : List Int := [s.1, (s.1 - 1) % 18446744073709551616, s.2, (s.2 + 1) % 18446744073709551616]
def edgesS (a b : List Sp) (n : Int) : List Int := [n, 0, 4294967295, 4294967296, 18446744073709551615] ++ a.flatMap edge ++ b.flatMap edge

theorem edges_len : ∀ l : List Sp, (l.flatMap edge).length = 4 * l.length
  | [] => rfl
  | s :: l => by rw [List.flatMap_cons, List.length_append, edges_len l]; simp [edge]; omega

theorem edges_step {l : List Sp} {i : Nat} (h : i < l.length) (o : List Int) : u64L (o ++ (l.take (i + 1)).flatMap edge) = u64L (o ++ (l.take i).flatMap edge) ++
    [.int .u64 (l.getD i (0, 0)).1, .int .u64 (((l.getD i (0, 0)).1 - 1) % 18446744073709551616), .int .u64 (l.getD i (0, 0)).2, .int .u64 (((l.getD i (0, 0)).2 + 1) % 18446744073709551616)] := by
  rw [List.take_add_one, List.flatMap_append]
  simp [u64L, List.getD, h, edge]

set_option maxRecDepth 4000 in
set_option maxHeartbeats 1000000 in
theorem edges_run (a b : List Sp) (ha : a.length < 274877906944) (hb : b.length < 274877906944) (n : Int) (L : List AObj) (hw : WFL L) :
    ACall Try.prog 11 [.slice (spL a), .slice (spL b), .int .u64 n] L (Is (.slice (u64L (edgesS a b n))) L) := by
  refine ACall.walk (by kernel_rfl) Try.func11 rfl rfl rfl rfl [] (by kernel_rfl) kp11 100 fun c hP hn hL => ?_
  simp [Try.f11]
  obtain ⟨B, hB⟩ : ∃ B : List Int, B = [n, 0, 4294967295, 4294967296, 18446744073709551615] := ⟨_, rfl⟩
  refine AGo.loopE (α := Nat) (fun i => i ≤ a.length) (fun i => i = a.length) (fun i => a.length - i) [0, 1, 7, 8]
    (fun i => [.slice (spL a), .slice (spL b), .own (L.length + 1) i 0 (5 + 4 * i), .int .i64 i])
    (fun i => L ++ [⟨0, 0, true, false, []⟩, ⟨i, 1, false, false, u64L (B ++ (a.take i).flatMap edge)⟩]) 0 (by kernel_rfl) (by kernel_rfl) (by kernel_rfl) (by simp) (by simp [hB, u64L]) (by simp) ?_ ?_
  · intro i y z hR hi ih hex
    refine AGo.go hP hn rfl [100000] kp11 100 (hR.ok _) ?_
    by_cases hlt : i < a.length
    · have hlt2 : (i : Int) < a.length := by omega
      have hg := spL_get hlt
      have hes := edges_step hlt B
      have hlen : (B ++ (a.take i).flatMap edge).length = 5 + 4 * i := by rw [List.length_append, edges_len, hB]; simp; omega
      generalize a.getD i (0, 0) = s at *
      have w1 : IntKind.i64.wrap ((i : Int) + 1) = ((i + 1 : Nat) : Int) := by rw [wrap_id (by omega) (by omega)]; simp
      obtain ⟨E, hE⟩ : ∃ E, E = u64L (B ++ (a.take i).flatMap edge) := ⟨_, rfl⟩
      have hEl : 5 + 4 * i ≤ E.length := by rw [hE]; simp only [u64L_len, hlen]; omega
      have hEt : E.take (5 + 4 * i) = E := List.take_of_length_le (by rw [hE]; simp only [u64L_len, hlen]; omega)
      have hEi : AV.idsL (fun o => decide (o < L.length + 2)) E = true := by rw [hE]; simp
      rw [← hE] at hes
      have l1 : (5 + 4 * i + 4) * 8 ≤ 35184372088832 := by omega
      have l2 : 5 + 4 * i + 4 < 35184372088832 := by omega
      simp only [← hE]
      simp [-wrap_i64, hlt2, hg, w1, hEl, hEt, l1, l2]
      refine AGo.keep [0, 1, 7, 8] ?_
      simp
      refine AGo.trimTo (M := [_, _]) (N := [_]) hL hw (by simp [AV.idsL, AV.ids, hEi]) (by simp [AV.ids]) ?_
      exact AGo.again (ih (i + 1) (by omega) (by omega)) (by simp; omega) (by simp [hes])
    · have hil : i = a.length := by omega
      subst hil
      simp
      exact AGo.again (hex _ rfl) (by simp) (by simp)
  rintro i rfl
  refine AGo.go hP hn rfl [] kp11 100 (by kernel_rfl) ?_
  obtain ⟨C, hC⟩ : ∃ C : List Int, C = B ++ a.flatMap edge := ⟨_, rfl⟩
  have hCl : C.length = 5 + 4 * a.length := by rw [hC, List.length_append, edges_len, hB]; simp
  simp only [List.take_length, ← hC]
  simp
  refine AGo.loopE (α := Nat) (fun i => i ≤ b.length) (fun i => i = b.length) (fun i => b.length - i) [1, 7, 9]
    (fun i => [.slice (spL b), .own (L.length + 1) (a.length + i) 0 (5 + 4 * a.length + 4 * i), .int .i64 i])
    (fun i => L ++ [⟨0, 0, true, false, []⟩, ⟨a.length + i, 1, false, false, u64L (C ++ (b.take i).flatMap edge)⟩]) 0 (by kernel_rfl) (by kernel_rfl) (by kernel_rfl) (by simp) (by simp) (by simp) ?_ ?_
  · intro i y z hR hi ih hex
    refine AGo.go hP hn rfl [100002] kp11 100 (hR.ok _) ?_
    by_cases hlt : i < b.length
    · have hlt2 : (i : Int) < b.length := by omega
      have hg := spL_get hlt
      have hes := edges_step hlt C
      have hlen : (C ++ (b.take i).flatMap edge).length = 5 + 4 * a.length + 4 * i := by rw [List.length_append, edges_len, hCl]; simp; omega
      generalize b.getD i (0, 0) = s at *
      have w1 : IntKind.i64.wrap ((i : Int) + 1) = ((i + 1 : Nat) : Int) := by rw [wrap_id (by omega) (by omega)]; simp
      obtain ⟨E, hE⟩ : ∃ E, E = u64L (C ++ (b.take i).flatMap edge) := ⟨_, rfl⟩
      have hEl : 5 + 4 * a.length + 4 * i ≤ E.length := by rw [hE]; simp only [u64L_len, hlen]; omega
      have hEt : E.take (5 + 4 * a.length + 4 * i) = E := List.take_of_length_le (by rw [hE]; simp only [u64L_len, hlen]; omega)
      have hEi : AV.idsL (fun o => decide (o < L.length + 2)) E = true := by rw [hE]; simp
      rw [← hE] at hes
      have l1 : (5 + 4 * a.length + 4 * i + 4) * 8 ≤ 35184372088832 := by omega
      have l2 : 5 + 4 * a.length + 4 * i + 4 < 35184372088832 := by omega
      simp only [← hE]
      simp [-wrap_i64, hlt2, hg, w1, hEl, hEt, l1, l2]
      refine AGo.keep [1, 7, 9] ?_
      simp
      refine AGo.trimTo (M := [_, _]) (N := [_]) hL hw (by simp [AV.idsL, AV.ids, hEi]) (by simp [AV.ids]) ?_
      exact AGo.again (ih (i + 1) (by omega) (by omega)) (by simp; omega) (by simp [hes]; omega)
    · have hil : i = b.length := by omega
      subst hil
      simp
      exact AGo.again (hex _ rfl) (by simp) (by simp)
  rintro i rfl
  refine AGo.go hP hn rfl [] kp11 100 (by kernel_rfl) ?_
  have hEd : edgesS a b n = C ++ b.flatMap edge := by rw [edgesS, hC, hB]
  simp only [List.take_length, ← hEd]
  simp
  have hl : (edgesS a b n).length = 5 + 4 * a.length + 4 * b.length := by rw [hEd, List.length_append, edges_len, hCl]
  have htk : (u64L (edgesS a b n)).take (5 + 4 * a.length + 4 * b.length) = u64L (edgesS a b n) := List.take_of_length_le (by simp [hl])
  refine AGo.freeze (L.length + 1) (by simp; rfl) ?_
  refine AGo.keep [6] ?_
  simp [frzL, hl, htk]
  exact AGo.ret_isM hP Try.func11 hL hw (by simp [Try.f11] <;> rfl) rfl (by simp [AV.closed]) rfl

/-- The first i are turned. -/
def part (g : Sp → Sp) (N : List Sp) (i : Nat) : List Sp := (N.take i).map g ++ N.drop i

theorem part_len (g : Sp → Sp) (N : List Sp) (i : Nat) (h : i ≤ N.length) : (part g N i).length = N.length := by
  simp [part]; omega
theorem part_get {g : Sp → Sp} {N : List Sp} {i : Nat} (h : i < N.length) : (spL (part g N i))[i]? = some (.agg [.int .u64 (N.getD i (0, 0)).1, .int .u64 (N.getD i (0, 0)).2]) := by
  have : (part g N i)[i]? = some (N.getD i (0, 0)) := by
    rw [part, List.getElem?_append_right (by simp; omega)]
    simp [List.getD, h, Nat.min_eq_left (Nat.le_of_lt h)]
  simp [spL, this, spA]
theorem part_set {g : Sp → Sp} {N : List Sp} {i : Nat} (h : i < N.length) : (spL (part g N i)).set i (.agg [.int .u64 (g (N.getD i (0, 0))).1, .int .u64 (g (N.getD i (0, 0))).2]) = spL (part g N (i + 1)) := by
  rw [spL_set]
  congr 1
  apply List.ext_getElem?
  intro j
  unfold part
  rw [List.getElem?_set]
  by_cases hij : i = j
  · subst hij
    rw [if_pos rfl, if_pos (by simp; omega), List.getElem?_append_left (by simp; omega)]
    simp [List.getD, h, List.getElem?_take]
  · rw [if_neg hij]
    by_cases hlt : j < i
    · rw [List.getElem?_append_left (by simp; omega), List.getElem?_append_left (by simp; omega)]
      simp [List.getElem?_take, hlt, show j < i + 1 by omega]
    · rw [List.getElem?_append_right (by simp; omega), List.getElem?_append_right (by simp; omega)]
      simp only [List.length_map, List.length_take, List.getElem?_drop]
      congr 1
      omega

theorem or_law' (x y : Nat) (hx : x < 4294967296) : 4294967296 * y ||| x = 4294967296 * y + x :=
  (Nat.two_pow_add_eq_or_of_lt (i := 32) hx y).symm

def highS (s : Sp) : Sp := (s.1 * 4294967296, s.2 * 4294967296 + 4294967295)

set_option maxRecDepth 4000 in
set_option maxHeartbeats 1000000 in
theorem high_run (l : List Sp) (hl : l.length < 1099511627776) (hok : OkS l) (L : List AObj) (hw : WFL L) :
    ACall Try.prog 21 [.slice (spL l)] L (RowS ((normW 32 l).map highS) L) := by
  refine ACall.walk (by kernel_rfl) Try.func21 rfl rfl rfl rfl [] (by kernel_rfl) kp21 100 fun c hP hn hL => ?_
  simp [Try.f21]
  refine AOps.callG hP hn rfl [] 100 (norm_run l hl hok 32 _ (by simp [hw, hw.append_closed])) (by simp) (by simp <;> rfl) (by kernel_rfl) ?_
  have hNl := normW_len 32 l
  have hNo : OkS (normW 32 l) := okS_norm hok
  have hN2 : ∀ s ∈ normW 32 l, s.1 ≤ s.2 ∧ s.2 ≤ 4294967295 := fun s hs => (norm_form 4294967295 l).2 s hs
  generalize normW 32 l = N at *
  rintro r L' ⟨ver, esz, nil, rfl, rfl, he⟩
  simp
  refine AGo.loopE (α := Nat) (fun i => i ≤ N.length) (fun i => i = N.length) (fun i => N.length - i) [3, 8, 9]
    (fun i => [.own (L.length + 1) ver 0 N.length, .int .i64 N.length, .int .i64 i])
    (fun i => L ++ [⟨0, 0, true, false, []⟩, ⟨ver, esz, nil, false, spL (part highS N i)⟩]) 0 (by kernel_rfl) (by kernel_rfl) (by kernel_rfl) (by simp) (by simp [part]) (by simp) ?_ ?_
  · intro i y z hR hi ih hex
    refine AGo.go hP hn rfl [100000] kp21 100 (hR.ok _) ?_
    by_cases hlt : i < N.length
    · obtain ⟨rfl, rfl⟩ := he (by rintro rfl; simp at hlt)
      have hlt2 : (i : Int) < N.length := by omega
      have hg := part_get (g := highS) hlt
      have hs := part_set (g := highS) hlt
      have hmem : N.getD i (0, 0) ∈ N := by simp [List.getD, hlt]
      have h1 := hNo _ hmem
      have h2 := hN2 _ hmem
      generalize N.getD i (0, 0) = s at *
      have w1 : IntKind.i64.wrap ((i : Int) + 1) = ((i + 1 : Nat) : Int) := by rw [wrap_id (by omega) (by omega)]; simp
      obtain ⟨E, hE⟩ : ∃ E, E = spL (part highS N i) := ⟨_, rfl⟩
      rw [← hE] at hg hs
      simp only [← hE]
      simp [-wrap_i64, hlt, hlt2, hg, w1]
      have p1 : (2 : Int) ^ min 32 IntKind.u64.bits = 4294967296 := by decide
      have p2 : (2 : Int) ^ IntKind.u64.bits = 18446744073709551616 := by decide
      have p3 : (4294967295 : Nat) % 2 ^ IntKind.u64.bits = 4294967295 := by decide
      have e1 : s.1 * 2 ^ min 32 IntKind.u64.bits % 18446744073709551616 = (highS s).1 := by rw [p1]; simp only [highS]; omega
      have e2 : (((s.2 * 2 ^ min 32 IntKind.u64.bits % 18446744073709551616 % 2 ^ IntKind.u64.bits).toNat ||| 4294967295 % 2 ^ IntKind.u64.bits : Nat) : Int) % 18446744073709551616 = (highS s).2 := by
        rw [p1, p2, p3]
        have e3 : (s.2 * 4294967296 % 18446744073709551616 % 18446744073709551616).toNat = 4294967296 * s.2.toNat := by omega
        rw [e3, or_law' _ _ (by omega)]
        simp only [highS]
        omega
      exact AGo.again (ih (i + 1) (by omega) (by omega)) (by simp) (by rw [e1, e2, ← hs])
    · have hil : i = N.length := by omega
      subst hil
      simp
      exact AGo.again (hex _ rfl) (by simp) (by simp)
  rintro i rfl
  refine AGo.go hP hn rfl [] kp21 100 (by kernel_rfl) ?_
  simp [part]
  exact AGo.ret_rowS (i := 1) (ver := ver) (esz := esz) (nil := nil) hP Try.func21 hL hw (by simp [Try.f21] <;> rfl) rfl rfl (by simpa using he)

def underS (h : Int) (s : Sp) : Sp := (s.1 + 4294967296 * h, s.2 + 4294967296 * h)

set_option maxRecDepth 4000 in
set_option maxHeartbeats 1000000 in
theorem under_run (h : Int) (hh : 0 ≤ h ∧ h < 4294967296) (l : List Sp) (hl : l.length < 1099511627776) (hok : OkS l) (L : List AObj) (hw : WFL L) :
    ACall Try.prog 22 [.int .u32 h, .slice (spL l)] L (RowS ((normW 32 l).map (underS h)) L) := by
  refine ACall.walk (by kernel_rfl) Try.func22 rfl rfl rfl rfl [] (by kernel_rfl) kp22 100 fun c hP hn hL => ?_
  simp [Try.f22]
  refine AOps.callG hP hn rfl [] 100 (norm_run l hl hok 32 _ (by simp [hw, hw.append_closed])) (by simp) (by simp <;> rfl) (by kernel_rfl) ?_
  have hNl := normW_len 32 l
  have hNo : OkS (normW 32 l) := okS_norm hok
  have hN2 : ∀ s ∈ normW 32 l, s.1 ≤ s.2 ∧ s.2 ≤ 4294967295 := fun s hs => (norm_form 4294967295 l).2 s hs
  generalize normW 32 l = N at *
  rintro r L' ⟨ver, esz, nil, rfl, rfl, he⟩
  simp
  refine AGo.loopE (α := Nat) (fun i => i ≤ N.length) (fun i => i = N.length) (fun i => N.length - i) [0, 5, 10, 11]
    (fun i => [.int .u32 h, .own (L.length + 1) ver 0 N.length, .int .i64 N.length, .int .i64 i])
    (fun i => L ++ [⟨0, 0, true, false, []⟩, ⟨ver, esz, nil, false, spL (part (underS h) N i)⟩]) 0 (by kernel_rfl) (by kernel_rfl) (by kernel_rfl) (by simp) (by simp [part]) (by simp) ?_ ?_
  · intro i y z hR hi ih hex
    refine AGo.go hP hn rfl [100000] kp22 100 (hR.ok _) ?_
    by_cases hlt : i < N.length
    · obtain ⟨rfl, rfl⟩ := he (by rintro rfl; simp at hlt)
      have hlt2 : (i : Int) < N.length := by omega
      have hg := part_get (g := underS h) hlt
      have hs := part_set (g := underS h) hlt
      have hmem : N.getD i (0, 0) ∈ N := by simp [List.getD, hlt]
      have h1 := hNo _ hmem
      have h2 := hN2 _ hmem
      generalize N.getD i (0, 0) = s at *
      have w1 : IntKind.i64.wrap ((i : Int) + 1) = ((i + 1 : Nat) : Int) := by rw [wrap_id (by omega) (by omega)]; simp
      obtain ⟨E, hE⟩ : ∃ E, E = spL (part (underS h) N i) := ⟨_, rfl⟩
      have hset : ∀ q, (E.set i q)[i]? = some q := fun q => by
        rw [List.getElem?_set_self]; rw [hE, spL_len, part_len _ _ _ hi]; exact hlt
      have hset2 : ∀ q q', (E.set i q).set i q' = E.set i q' := fun q q' => by simp
      rw [← hE] at hg hs
      simp only [← hE]
      simp [-wrap_i64, hlt, hlt2, hg, w1, hset]
      have p1 : (2 : Int) ^ min 32 IntKind.u64.bits = 4294967296 := by decide
      have p2 : (2 : Int) ^ IntKind.u64.bits = 18446744073709551616 := by decide
      have e0 : ∀ q : Int, 0 ≤ q → q ≤ 4294967295 → (((q % 2 ^ IntKind.u64.bits).toNat ||| (h % 18446744073709551616 * 2 ^ min 32 IntKind.u64.bits % 18446744073709551616 % 2 ^ IntKind.u64.bits).toNat : Nat) : Int) % 18446744073709551616 = q + 4294967296 * h := fun q q0 q1 => by
        rw [p1, p2]
        have e3 : (h % 18446744073709551616 * 4294967296 % 18446744073709551616 % 18446744073709551616).toNat = 4294967296 * h.toNat := by omega
        have e4 : (q % 18446744073709551616).toNat = q.toNat := by omega
        rw [e3, e4, Nat.or_comm, or_law' _ _ (by omega)]
        omega
      exact AGo.again (ih (i + 1) (by omega) (by omega)) (by simp) (by rw [e0 _ (by omega) (by omega), e0 _ (by omega) (by omega)]; rw [← hs]; rfl)
    · have hil : i = N.length := by omega
      subst hil
      simp
      exact AGo.again (hex _ rfl) (by simp) (by simp)
  rintro i rfl
  refine AGo.go hP hn rfl [] kp22 100 (by kernel_rfl) ?_
  simp [part]
  exact AGo.ret_rowS (i := 1) (ver := ver) (esz := esz) (nil := nil) hP Try.func22 hL hw (by simp [Try.f22] <;> rfl) rfl rfl (by simpa using he)

end Go.Proofs.Ytpneikbihcoaaab.Vm

/- A function's code, walked by evaluation. -/
import Derived.Test.YtpneikbihcoaaabVm15
namespace Go.Proofs.Ytpneikbihcoaaab.Vm
set_option linter.unusedVariables false
set_option linter.unusedSimpArgs false

variable {c : Ctx} {f : FuncId} {σ : AState} {R : AV → List AObj → Prop} {k : List Item}

mutual
/-- No object is named. -/
def AV.closed : AV → Bool
  | .agg xs => AV.closedL xs
  | .tup xs => AV.closedL xs
  | .slice xs => AV.closedL xs
  | .ref x => AV.closed x
  | .fn _ caps => AV.closedL caps
  | .own .. => false
  | .addr .. => false
  | _ => true
def AV.closedL : List AV → Bool
  | [] => true
  | x :: xs => AV.closed x && AV.closedL xs
end

mutual
theorem AV.ren_closed (g : Nat → Nat) : ∀ x : AV, x.closed = true → x.ren g = x
  | .agg xs, h => by simp only [AV.ren, AV.closed] at h ⊢; rw [AV.renL_closed g xs h]
  | .tup xs, h => by simp only [AV.ren, AV.closed] at h ⊢; rw [AV.renL_closed g xs h]
  | .slice xs, h => by simp only [AV.ren, AV.closed] at h ⊢; rw [AV.renL_closed g xs h]
  | .ref x, h => by simp only [AV.ren, AV.closed] at h ⊢; rw [AV.ren_closed g x h]
  | .fn f caps, h => by simp only [AV.ren, AV.closed] at h ⊢; rw [AV.renL_closed g caps h]
  | .own .., h => by simp [AV.closed] at h
  | .addr .., h => by simp [AV.closed] at h
  | .any, _ => rfl
  | .int .., _ => rfl
  | .bool _, _ => rfl
  | .str _, _ => rfl
  | .nilS, _ => rfl
  | .nilP, _ => rfl
theorem AV.renL_closed (g : Nat → Nat) : ∀ xs : List AV, AV.closedL xs = true → AV.renL g xs = xs
  | [], _ => rfl
  | x :: xs, h => by
    simp only [AV.closedL, Bool.and_eq_true] at h
    simp only [AV.renL, AV.ren_closed g x h.1, AV.renL_closed g xs h.2]
end

mutual
theorem AV.ids_closed (p : Nat → Bool) : ∀ x : AV, x.closed = true → x.ids p = true
  | .agg xs, h => by simp only [AV.ids, AV.closed] at h ⊢; exact AV.idsL_closed p xs h
  | .tup xs, h => by simp only [AV.ids, AV.closed] at h ⊢; exact AV.idsL_closed p xs h
  | .slice xs, h => by simp only [AV.ids, AV.closed] at h ⊢; exact AV.idsL_closed p xs h
  | .ref x, h => by simp only [AV.ids, AV.closed] at h ⊢; exact AV.ids_closed p x h
  | .fn f caps, h => by simp only [AV.ids, AV.closed] at h ⊢; exact AV.idsL_closed p caps h
  | .own .., h => by simp [AV.closed] at h
  | .addr .., h => by simp [AV.closed] at h
  | .any, _ => rfl
  | .int .., _ => rfl
  | .bool _, _ => rfl
  | .str _, _ => rfl
  | .nilS, _ => rfl
  | .nilP, _ => rfl
theorem AV.idsL_closed (p : Nat → Bool) : ∀ xs : List AV, AV.closedL xs = true → AV.idsL p xs = true
  | [], _ => rfl
  | x :: xs, h => by
    simp only [AV.closedL, Bool.and_eq_true] at h
    simp only [AV.idsL, AV.ids_closed p x h.1, AV.idsL_closed p xs h.2, Bool.and_true]
end

theorem AV.closedL_map {α : Type} (e : α → AV) (h : ∀ x, (e x).closed = true) (l : List α) : AV.closedL (l.map e) = true := by
  induction l with
  | nil => rfl
  | cons x l ih => simp [AV.closedL, h x, ih]

theorem AV.closedL_all (l : List AV) : AV.closedL l = l.all AV.closed := by
  induction l with
  | nil => rfl
  | cons x l ih => simp [AV.closedL, ih]

/-! ### What a function of plain values returns -/

theorem range_pick (L M : List AObj) (g : Nat → Nat) (h : ∀ obj ∈ L, AV.renL g obj.elems = obj.elems) : ((List.range L.length).map fun k => ((L ++ M).getD k default).ren g) = L := by
  apply List.ext_getElem?
  intro i
  rw [List.getElem?_map]
  by_cases hi : i < L.length
  · rw [List.getElem?_range hi]
    simp only [Option.map_some]
    rw [List.getElem?_eq_getElem hi]
    congr 1
    have : (L ++ M).getD i default = L[i] := by simp [List.getD, List.getElem?_append_left hi, List.getElem?_eq_getElem hi]
    rw [this]
    unfold AObj.ren
    rw [h _ (List.getElem_mem hi)]
  · rw [List.getElem?_eq_none (by simpa using hi), List.getElem?_eq_none (by omega)]
    rfl

mutual
theorem AV.ren_id (p : Nat → Bool) (g : Nat → Nat) (hg : ∀ o, p o = true → g o = o) : ∀ x : AV, x.ids p = true → x.ren g = x
  | .agg xs, h => by simp only [AV.ren, AV.ids] at h ⊢; rw [AV.renL_id p g hg xs h]
  | .tup xs, h => by simp only [AV.ren, AV.ids] at h ⊢; rw [AV.renL_id p g hg xs h]
  | .slice xs, h => by simp only [AV.ren, AV.ids] at h ⊢; rw [AV.renL_id p g hg xs h]
  | .ref x, h => by simp only [AV.ren, AV.ids] at h ⊢; rw [AV.ren_id p g hg x h]
  | .fn f caps, h => by simp only [AV.ren, AV.ids] at h ⊢; rw [AV.renL_id p g hg caps h]
  | .own o _ _ _, h => by simp only [AV.ren, AV.ids] at h ⊢; rw [hg o h]
  | .addr o _ _ _ _, h => by simp only [AV.ren, AV.ids] at h ⊢; rw [hg o h]
  | .any, _ => rfl
  | .int .., _ => rfl
  | .bool _, _ => rfl
  | .str _, _ => rfl
  | .nilS, _ => rfl
  | .nilP, _ => rfl
theorem AV.renL_id (p : Nat → Bool) (g : Nat → Nat) (hg : ∀ o, p o = true → g o = o) : ∀ xs : List AV, AV.idsL p xs = true → AV.renL g xs = xs
  | [], _ => rfl
  | x :: xs, h => by
    simp only [AV.idsL, Bool.and_eq_true] at h
    simp only [AV.renL, AV.ren_id p g hg x h.1, AV.renL_id p g hg xs h.2]
end

mutual
theorem AV.ids_mono {p q : Nat → Bool} (h : ∀ o, p o = true → q o = true) : ∀ x : AV, x.ids p = true → x.ids q = true
  | .agg xs, hx => by simp only [AV.ids] at hx ⊢; exact AV.idsL_mono h xs hx
  | .tup xs, hx => by simp only [AV.ids] at hx ⊢; exact AV.idsL_mono h xs hx
  | .slice xs, hx => by simp only [AV.ids] at hx ⊢; exact AV.idsL_mono h xs hx
  | .ref x, hx => by simp only [AV.ids] at hx ⊢; exact AV.ids_mono h x hx
  | .fn f caps, hx => by simp only [AV.ids] at hx ⊢; exact AV.idsL_mono h caps hx
  | .own o _ _ _, hx => by simp only [AV.ids] at hx ⊢; exact h o hx
  | .addr o _ _ _ _, hx => by simp only [AV.ids] at hx ⊢; exact h o hx
  | .any, _ => rfl
  | .int .., _ => rfl
  | .bool _, _ => rfl
  | .str _, _ => rfl
  | .nilS, _ => rfl
  | .nilP, _ => rfl
theorem AV.idsL_mono {p q : Nat → Bool} (h : ∀ o, p o = true → q o = true) : ∀ xs : List AV, AV.idsL p xs = true → AV.idsL q xs = true
  | [], _ => rfl
  | x :: xs, hx => by
    simp only [AV.idsL, Bool.and_eq_true] at hx ⊢
    exact ⟨AV.ids_mono h x hx.1, AV.idsL_mono h xs hx.2⟩
end

/-- The objects of a heap name no objects but those of the heap. -/
def WFL (L : List AObj) : Prop := ∀ obj ∈ L, AV.idsL (fun o => decide (o < L.length)) obj.elems = true

theorem idxOf_range_append (n : Nat) (ks : List Nat) (hks : ∀ k ∈ ks, n ≤ k) (o : Nat) (ho : o < n) : (List.range n ++ ks).idxOf o = o := by
  have hm : o ∈ List.range n := by simpa using ho
  rw [List.idxOf_append, if_pos hm]
  have hlt : (List.range n).idxOf o < (List.range n).length := List.idxOf_lt_length_iff.2 hm
  have := List.getElem_idxOf hlt
  rw [List.getElem_range] at this
  exact this

/-- A result and the objects behind it, told exactly: the caller's objects, and those of ks, whose content names nothing. -/
theorem Exports.keep {M : List AObj} {r : AV} (hL : σ.L = c.L0 ++ M) (hwf : WFL c.L0) (ks : List Nat) (hnd : ks.Nodup) (hk : ks.all (fun k => decide (k < M.length)) = true)
    (hcl : ks.all (fun k => AV.closedL (M.getD k default).elems) = true)
    (hr : r.ids (fun o => decide (o < c.L0.length) || (ks.map (c.L0.length + ·)).contains o) = true)
    (hR : R (r.ren ((List.range c.L0.length ++ ks.map (c.L0.length + ·)).idxOf ·)) (c.L0 ++ ks.map fun k => M.getD k default)) : Exports c σ r R := by
  obtain ⟨n, hn⟩ : ∃ n, n = c.L0.length := ⟨_, rfl⟩
  obtain ⟨all, hall⟩ : ∃ all, all = List.range n ++ ks.map (n + ·) := ⟨_, rfl⟩
  have hmem : ∀ o, all.contains o = (decide (o < n) || (ks.map (n + ·)).contains o) := fun o => by
    rw [hall]
    rw [Bool.eq_iff_iff]
    simp
  have hkM : ∀ k ∈ ks, k < M.length := fun k hk' => by simpa using List.all_eq_true.1 hk k hk'
  have hid : ∀ o, o < n → all.idxOf o = o := fun o ho => by rw [hall]; exact idxOf_range_append n _ (fun k hk' => by obtain ⟨j, _, rfl⟩ := List.mem_map.1 hk'; omega) o ho
  have hcl' : ∀ k ∈ ks, AV.closedL (M.getD k default).elems = true := fun k hk' => List.all_eq_true.1 hcl k hk'
  refine Exports.pick all (fun k hk' => ?_) ?_ (fun i hi => ?_) (fun k hk' obj hobj => ?_) ?_ ?_
  · rw [hL, List.length_append, ← hn]
    rw [hall] at hk'
    rcases List.mem_append.1 hk' with h1 | h1
    · simp at h1; omega
    · obtain ⟨j, hj, rfl⟩ := List.mem_map.1 h1
      have := hkM j hj
      omega
  · rw [hall, List.nodup_append]
    refine ⟨List.nodup_range, ?_, fun x hx y hy => ?_⟩
    · exact List.Pairwise.map _ (fun x y h => by omega) hnd
    · simp at hx
      obtain ⟨j, _, rfl⟩ := List.mem_map.1 hy
      omega
  · rw [hall, List.getElem?_append_left (by simpa [hn] using hi), List.getElem?_range (by rw [hn]; exact hi)]
  · rw [hL] at hobj
    by_cases hlt : k < n
    · rw [List.getElem?_append_left (by omega)] at hobj
      have := hwf obj (List.mem_of_getElem? hobj)
      refine AV.idsL_mono (fun o ho => ?_) _ this
      rw [hmem o]
      simp only [decide_eq_true_eq] at ho
      simp; left; omega
    · rw [hall] at hk'
      rcases List.mem_append.1 hk' with h1 | h1
      · simp at h1; omega
      · obtain ⟨j, hj, rfl⟩ := List.mem_map.1 h1
        rw [List.getElem?_append_right (by omega), show n + j - c.L0.length = j from by omega] at hobj
        have := hcl' j hj
        rw [show M.getD j default = obj from by simp [List.getD, hobj]] at this
        exact AV.idsL_closed _ _ this
  · rw [show (fun o => all.contains o) = (fun o => decide (o < c.L0.length) || (ks.map (c.L0.length + ·)).contains o) from by funext o; rw [hmem o, hn]]
    exact hr
  · have e1 : (all.map fun k => (σ.L.getD k default).ren (all.idxOf ·)) = c.L0 ++ ks.map fun k => M.getD k default := by
      have hsp : (all.map fun k => (σ.L.getD k default).ren (all.idxOf ·)) = ((List.range n).map fun k => (σ.L.getD k default).ren (all.idxOf ·)) ++ ((ks.map (n + ·)).map fun k => (σ.L.getD k default).ren (all.idxOf ·)) := by
        rw [← List.map_append, ← hall]
      rw [hsp]
      congr 1
      · rw [hL, hn]
        refine range_pick c.L0 M _ fun obj hobj => ?_
        exact AV.renL_id (fun o => decide (o < c.L0.length)) _ (fun o ho => hid o (by simpa [hn] using ho)) _ (hwf obj hobj)
      · rw [List.map_map]
        apply List.map_congr_left
        intro k hk'
        simp only [Function.comp]
        have h1 : σ.L.getD (n + k) default = M.getD k default := by
          rw [hL]
          simp only [List.getD]
          rw [List.getElem?_append_right (by omega), show n + k - c.L0.length = k from by omega]
        rw [h1]
        unfold AObj.ren
        rw [AV.renL_closed _ _ (hcl' k hk')]
    rw [e1, hall, hn]
    exact hR

/-- A result that names nothing; the caller's objects stay. -/
theorem Exports.plain {M : List AObj} {r : AV} (hL : σ.L = c.L0 ++ M) (hwf : WFL c.L0) (hr : r.closed = true) (hR : R r c.L0) : Exports c σ r R := by
  refine Exports.keep hL hwf [] List.nodup_nil rfl rfl (AV.ids_closed _ _ hr) ?_
  rw [AV.ren_closed _ _ hr]
  simpa using hR

/-- A result that is a row of the walk's own, whose content names nothing. -/
theorem Exports.row {M : List AObj} {k ver off len : Nat} (hL : σ.L = c.L0 ++ M) (hwf : WFL c.L0) (hk : k < M.length) (hcl : AV.closedL (M.getD k default).elems = true)
    (hR : R (.own c.L0.length ver off len) (c.L0 ++ [M.getD k default])) : Exports c σ (.own (c.L0.length + k) ver off len) R := by
  refine Exports.keep hL hwf [k] (by simp) (by simpa using hk) (by simpa using hcl) (by simp [AV.ids]) ?_
  have : (List.range c.L0.length ++ [k].map (c.L0.length + ·)).idxOf (c.L0.length + k) = c.L0.length := by
    rw [List.idxOf_append, if_neg (by simp)]
    simp
  simp only [AV.ren, this]
  simpa using hR

end Go.Proofs.Ytpneikbihcoaaab.Vm

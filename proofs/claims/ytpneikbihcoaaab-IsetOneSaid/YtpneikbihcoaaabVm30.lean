/- An object that is written no more, told by its content wherever it is named. -/
import Derived.Test.YtpneikbihcoaaabVm29
namespace Go.Proofs.Ytpneikbihcoaaab.Vm
set_option linter.unusedVariables false
set_option linter.unusedSimpArgs false

variable {c : Ctx} {f : FuncId} {σ : AState} {R : AV → List AObj → Prop} {k : List Item}

mutual
theorem AV.frz_low (o : Nat) (obj : AObj) (n : Nat) (hn : n ≤ o) : ∀ x : AV, x.ids (fun i => decide (i < n)) = true → x.frz o obj = x
  | .any, h => rfl
  | .int .., h => rfl
  | .bool _, h => rfl
  | .str _, h => rfl
  | .nilS, h => rfl
  | .nilP, h => rfl
  | .agg xs, h => by simp only [AV.ids] at h; simp [AV.frz, AV.frzs_low o obj n hn xs h]
  | .tup xs, h => by simp only [AV.ids] at h; simp [AV.frz, AV.frzs_low o obj n hn xs h]
  | .slice xs, h => by simp only [AV.ids] at h; simp [AV.frz, AV.frzs_low o obj n hn xs h]
  | .ref x, h => by simp only [AV.ids] at h; simp [AV.frz, AV.frz_low o obj n hn x h]
  | .fn f xs, h => rfl
  | .own o' ver off len, h => by
    simp only [AV.ids, decide_eq_true_eq] at h
    simp only [AV.frz, frzV]
    rw [if_neg]
    rintro ⟨rfl, _⟩
    omega
  | .addr .., h => rfl
theorem AV.frzs_low (o : Nat) (obj : AObj) (n : Nat) (hn : n ≤ o) : ∀ xs : List AV, AV.idsL (fun i => decide (i < n)) xs = true → AV.frzs o obj xs = xs
  | [], h => rfl
  | x :: xs, h => by
    simp only [AV.idsL, Bool.and_eq_true] at h
    simp [AV.frzs, AV.frz_low o obj n hn x h.1, AV.frzs_low o obj n hn xs h.2]
end

theorem AGo.melt {L M : List AObj} {obj : AObj} (ps : List Nat) (i : Nat) (hw : WFL L) (hL : σ.L = L ++ M) (hM : M[i]? = some obj) (hn : obj.nil = false)
    (h : AGo c f k ⟨lk (ps.map fun j => (j, (frzV (L.length + i) obj (σ.env j)).frz (L.length + i) obj.cold)), L ++ (M.set i obj.cold).map (AObj.frz (L.length + i) obj.cold)⟩ R) : AGo c f k σ R := by
  have h1 : σ.L[L.length + i]? = some obj := by rw [hL, heap_get]; exact hM
  refine AGo.freeze (L.length + i) h1 ?_
  have hset : frzL σ.L (L.length + i) obj = L ++ M.set i obj.cold := by rw [hL, frzL, if_neg (by simp [hn]), heap_set]
  rw [hset]
  refine AGo.frz (L.length + i) (obj := obj.cold) ?_ rfl ?_
  · simp only [heap_get]
    exact List.getElem?_set_self (List.getElem?_eq_some_iff.1 hM).1
  · have hmap : (L ++ M.set i obj.cold).map (AObj.frz (L.length + i) obj.cold) = L ++ (M.set i obj.cold).map (AObj.frz (L.length + i) obj.cold) := by
      rw [List.map_append]
      congr 1
      have : ∀ ob ∈ L, AObj.frz (L.length + i) obj.cold ob = ob := fun ob hob => by
        unfold AObj.frz
        rw [AV.frzs_low _ _ L.length (by omega) _ (hw ob hob)]
      rw [List.map_congr_left this, List.map_id']
    simp only [hmap]
    exact AGo.keep ps h

attribute [simp] AV.frz AV.frzs AObj.frz

end Go.Proofs.Ytpneikbihcoaaab.Vm

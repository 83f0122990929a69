/- slices.SortFunc at spans, as a walk sees it. -/
import Derived.Test.YtpneikbihcoaaabSort1
import Derived.Test.YtpneikbihcoaaabSet1
open Go Go.Proofs Go.Proofs.Ytpneikbihcoaaab
namespace Go.Proofs.Ytpneikbihcoaaab.Vm
open Go.Shelf Go.RowKit Go.Lib Go.Sort
set_option linter.unusedVariables false
set_option linter.unusedSimpArgs false

/-- A span. -/
def spA (s : Sp) : AV := .agg [.int .u64 s.1, .int .u64 s.2]
def spL (l : List Sp) : List AV := l.map spA

theorem spL_cells {m : Mem} : ∀ (l : List Sp) (cs : List Value), CRs m (spL l) cs ↔ cs = l.flatMap encS
  | [], cs => by simp [spL, CRs]
  | s :: l, cs => by
    rw [show spL (s :: l) = spA s :: spL l from rfl]
    simp only [CRs, List.flatMap_cons, spL_cells l, spA, CR, encS]
    constructor
    · rintro ⟨c1, c2, rfl, ⟨a1, a2, rfl, rfl, b1, b2, rfl, rfl, rfl⟩, rfl⟩
      rfl
    · rintro rfl
      exact ⟨_, _, rfl, ⟨[.int .u64 s.1], _, rfl, rfl, [.int .u64 s.2], [], rfl, rfl, rfl⟩, rfl⟩

theorem flat_get : ∀ (l : List Sp) (t : Nat), t < l.length * 2 → (l.flatMap encS)[t]? = some ((encS (l.getD (t / 2) default))[t % 2]!)
  | [], t, h => by simp at h
  | s :: l, 0, h => rfl
  | s :: l, 1, h => rfl
  | s :: l, t + 2, h => by
    have e1 : (t + 2) / 2 = t / 2 + 1 := by omega
    have e2 : (t + 2) % 2 = t % 2 := by omega
    rw [e1, e2, List.flatMap_cons, List.getElem?_append_right (by simp [encS])]
    have := flat_get l t (by simp only [List.length_cons] at h; omega)
    simpa [encS] using this

theorem flatK_eq (d : Array Sp) : flatK encS 2 d = (d.toList.flatMap encS).toArray := by
  have hl : ∀ l : List Sp, (l.flatMap encS).length = l.length * 2 := fun l => by
    induction l with
    | nil => rfl
    | cons s l ih => rw [List.flatMap_cons, List.length_append, ih]; simp [encS]; omega
  refine ext_get! (by rw [size_flatK]; simp only [List.size_toArray, hl, Array.length_toList]) fun t ht => ?_
  rw [size_flatK] at ht
  rw [get_flatK _ _ _ _ ht]
  have h1 := flat_get d.toList t (by simpa using ht)
  have hlt : t < (d.toList.flatMap encS).length := by rw [hl]; simpa using ht
  rw [getElem!_pos _ t (by simpa using hlt)]
  rw [List.getElem?_eq_getElem hlt] at h1
  have h2 := Option.some.inj h1
  simp only [List.getElem_toArray]
  rw [h2]
  congr 2
  have hd : t / 2 < d.size := by omega
  rw [getElem!_pos d (t / 2) hd]
  simp [List.getD, hd]

theorem WR_mem {d d' : Array Sp} (h : PermIn 0 d.size d d') (s : Sp) : s ∈ d'.toList ↔ s ∈ d.toList := by
  obtain ⟨h1, _, h2⟩ := h
  have e1 : (d'.extract 0 d.size) = d' := by rw [← h1]; simp
  have e2 : (d.extract 0 d.size) = d := by simp
  rw [e1, e2] at h2
  exact h2.mem_iff

theorem sorted_pair {d' : Array Sp} {n : Nat} (hn : d'.size = n) (h : SortedIn (ltOf fun x y : Int × Int => Lib.compareInt x.1 y.1) 0 n d') : d'.toList.Pairwise (fun a b => a.1 ≤ b.1) := by
  refine List.pairwise_iff_getElem.2 fun i j hi hj hij => ?_
  have hi' : i < d'.size := by simpa using hi
  have hj' : j < d'.size := by simpa using hj
  have := h i j (Nat.zero_le _) hij (by omega)
  rw [ltLo, getElem!_pos d' i hi', getElem!_pos d' j hj'] at this
  simp only [decide_eq_false_iff_not] at this
  simp only [Array.getElem_toList]
  omega

/-- The row of spans is sorted in its place. -/
theorem sort_run (l : List Sp) (hlen : l.length < 4611686018427387904) (L : List AObj) (o ver esz : Nat) (nil : Bool) (hL : L[o]? = some ⟨ver, esz, nil, false, spL l⟩) (hesz : l ≠ [] → esz = 2) :
    ACall Try.prog 25 [.own o ver 0 l.length, .fn 26 []] L
      (fun r L' => r = .tup [] ∧ ∃ l', (∀ s, s ∈ l' ↔ s ∈ l) ∧ l'.length = l.length ∧ l'.Pairwise (fun a b => a.1 ≤ b.1) ∧ L' = L.set o ⟨ver, esz, nil, false, spL l'⟩) := by
  refine ⟨by kernel_rfl, fun w β S0 W vals hS hW hheap hvals => ?_⟩
  obtain ⟨v1, vs1, rfl, hv1, v2, vs2, rfl, hv2, rfl⟩ := hvals
  have hv2' : v2 = .func (.func 26) #[] #[] := by
    simp only [VR1, CR, CRcaps] at hv2
    obtain ⟨vs, h1, rfl⟩ := hv2
    simpa using h1
  subst hv2'
  obtain ⟨po, hpo⟩ := hheap.po hL
  have hX : ownX L β (.own o ver 0 l.length) v1 := by
    simp only [VR1, CR] at hv1
    obtain ⟨v, h1, _, h3⟩ := hv1
    obtain rfl := List.singleton_inj.1 h1
    exact h3
  obtain ⟨ob, p, k1, k2, _, k4⟩ := hX
  rw [hL] at k1; rw [hpo] at k2
  obtain rfl := Option.some.inj k1
  obtain rfl := Option.some.inj k2
  have k4 := k4 rfl
  by_cases hl : l = []
  · subst hl
    have hv : ∃ ad cap, v1 = .slice ad 0 cap := by
      cases nil with
      | true => simp only [if_true] at k4; exact ⟨_, _, k4.1⟩
      | false =>
        simp only [Bool.false_eq_true, if_false] at k4
        obtain ⟨a, cap, h1, _⟩ := k4
        exact ⟨_, _, h1⟩
    obtain ⟨ad, cap, rfl⟩ := hv
    refine (sort_none ad cap _ w).mono ?_
    rintro e w' ⟨rfl, rfl⟩
    refine ⟨_, β, .tup [], L, rfl, ⟨rfl, [], fun _ => Iff.rfl, rfl, List.Pairwise.nil, ?_⟩, Mem.Le.refl _, hheap, ⟨rfl, rfl, rfl, Nat.le_refl _, fun _ _ _ => rfl⟩, ⟨[], rfl, rfl⟩⟩
    apply List.ext_getElem?
    intro i
    by_cases hi : o = i
    · subst hi; rw [List.getElem?_set_self (List.getElem?_eq_some_iff.1 hL).1, hL]
    · rw [List.getElem?_set_ne hi]
  · obtain rfl := hesz hl
    have hlpos : 0 < l.length := List.length_pos_iff.2 hl
    have hnil : nil = false := by
      cases nil with
      | false => rfl
      | true => simp only [if_true] at k4; omega
    subst hnil
    simp only [Bool.false_eq_true, if_false] at k4
    obtain ⟨a, cap, rfl, ha1, ha2, ha3, ha4, ha5⟩ := k4
    have ha : a = ⟨po.b, 0, none⟩ := by
      have := ha4 (by omega)
      cases a; simp_all
    subst ha
    obtain ⟨cs, c1, c2, c3⟩ := CRrow.cells (hheap.row o _ po hL hpo rfl)
    have hcs := (spL_cells l cs).1 c1
    subst hcs
    have hst : Stand w.heap po.b 0 (l.flatMap encS) := c3 (by simpa [spL] using hl)
    obtain ⟨c, e, fr, hb, hcn, hfr⟩ := hheap.free o _ po hL hpo rfl
    have hblk : po.b < w.heap.size := (Array.getElem?_eq_some_iff.1 hb).1
    have hroom := hheap.room o _ po hL hpo rfl
    simp only [spL, List.length_map] at hroom
    have hflen : (l.flatMap encS).length = l.length * 2 := by rw [c2]; simp [spL]
    have hH : HoldsK encS 2 w po.b 0 l.toArray := by
      unfold HoldsK
      intro j hj
      rw [size_flatK] at hj
      simp only [List.size_toArray] at hj
      obtain ⟨c', e', fr', hb', hcc⟩ := hst
      rw [hb] at hb'
      simp only [Option.some.injEq, Obj.cells.injEq] at hb'
      obtain ⟨rfl, rfl, rfl⟩ := hb'
      have hv := hcc j _ (List.getElem?_eq_getElem (by rw [hflen]; exact hj))
      have hfl : (flatK encS 2 l.toArray)[j]! = (l.flatMap encS)[j]'(by rw [hflen]; exact hj) := by
        rw [flatK_eq]
        rw [getElem!_pos _ j (by simp [hflen]; exact hj)]
        simp
      refine ⟨?_, ?_⟩
      · unfold World.cell?
        simp only [hb]
        simpa [hfl] using hv
      · unfold World.frozen?
        simp only [hb]
        have := hfr j (by omega)
        simp
        omega
    have hcall := sort_calls po.b 0 cap l.toArray w hH hblk (by simpa using hlen)
    rw [List.size_toArray] at hcall
    refine hcall.mono ?_
    rintro e1 w' ⟨rfl, d', n, os, hperm, hsort, rfl⟩
    obtain ⟨l', rfl⟩ : ∃ l', l' = d'.toList := ⟨_, rfl⟩
    have hsz' : d'.size = l.length := by have := hperm.1; simpa using this
    have hheap' : (sortWorldK encS 2 w po.b 0 n d' os).heap = (w.heap.modify po.b (onCells (putCells id 0 (flatK encS 2 d')))) ++ os := rfl
    have hold : ∀ b, b < w.heap.size → b ≠ po.b → (sortWorldK encS 2 w po.b 0 n d' os).heap[b]? = w.heap[b]? := fun b h1 h2 => by
      rw [hheap', Array.getElem?_append_left (by simpa using h1), Array.getElem?_modify, if_neg (Ne.symm h2)]
    have hnew : (sortWorldK encS 2 w po.b 0 n d' os).heap[po.b]? = some (.cells (putCells id 0 (flatK encS 2 d') c) e fr) := by
      rw [hheap', Array.getElem?_append_left (by simpa using hblk), Array.getElem?_modify, if_pos rfl, hb]
      rfl
    have hsize : w.heap.size ≤ (sortWorldK encS 2 w po.b 0 n d' os).heap.size := by
      rw [hheap']; simp
    have hps : (putCells id 0 (flatK encS 2 d') c).size = po.n := by simp [putCells, hcn]
    have hfree' : Free (sortWorldK encS 2 w po.b 0 n d' os).heap po.b po.n := ⟨_, e, fr, hnew, hps, hfr⟩
    obtain ⟨g1, g2⟩ := hheap.upd (obj' := ⟨ver, 2, false, false, spL d'.toList⟩) (po' := po) hL hpo hsize (.inl ⟨rfl, rfl, id⟩)
      (fun b h1 h2 => hold b h1 (by rcases h2 with h2 | h2 | h2 <;> first | cases h2 | exact h2)) (.inl ⟨rfl, rfl, rfl, rfl⟩) rfl (by simp) (hheap.S o _ po hL hpo rfl) (fun _ => hheap.W o _ po hL hpo rfl rfl)
      (by simp only [spL, List.length_map, Array.length_toList, hsz']; exact hroom) hfree'
    have hstand : Stand (sortWorldK encS 2 w po.b 0 n d' os).heap po.b 0 (d'.toList.flatMap encS) := by
      refine ⟨_, e, fr, hnew, fun j v hj => ?_⟩
      have hjl : j < (d'.toList.flatMap encS).length := (List.getElem?_eq_some_iff.1 hj).1
      have hfl : (flatK encS 2 d')[j]! = v := by
        rw [flatK_eq, getElem!_pos _ j (by simpa using hjl)]
        rw [List.getElem?_eq_getElem hjl] at hj
        simpa using hj
      have hjs : j < (flatK encS 2 d').size := by rw [flatK_eq]; simpa using hjl
      have hjc : j < c.size := by rw [hcn]; rw [size_flatK, hsz'] at hjs; omega
      simp only [Nat.zero_add, putCells, Array.getElem?_mapIdx, Array.getElem?_eq_getElem hjc, Option.map_some]
      rw [if_pos ⟨Nat.zero_le _, by simpa using hjs⟩]
      simp [hfl]
    refine ⟨_, β.set o po, .tup [], L.set o ⟨ver, 2, false, false, spL d'.toList⟩, rfl, ⟨rfl, d'.toList, fun s => by have := WR_mem (d := l.toArray) (d' := d') (by simpa using hperm) s; simpa using this, by simpa using hsz', sorted_pair hsz' hsort, rfl⟩, g1,
      g2 fun _ => CRs.row _ _ _ ((spL_cells _ _).2 rfl) (by simp [spL, spA, AV.size, AV.sizes]) hstand, ⟨rfl, rfl, rfl, hsize, fun b h1 h2 => hold b h1 fun h3 => h2 (h3 ▸ hheap.W o _ po hL hpo rfl rfl)⟩, ⟨[], rfl, rfl⟩⟩

end Go.Proofs.Ytpneikbihcoaaab.Vm

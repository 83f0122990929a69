/- A function's code, from its head to its return. -/
import Derived.Test.YtpneikbihcoaaabVm14
namespace Go.Proofs.Ytpneikbihcoaaab.Vm
set_option linter.unusedVariables false
set_option linter.unusedSimpArgs false

/-- What a function returns. -/
def Fin (c : Ctx) (R : AV → List AObj → Prop) (v : Value) (w' : World) : Prop :=
  ∃ r L' β', R r L' ∧ c.m0.Le (memOf w'.heap L' β' c.S0) ∧ HeapRel w'.heap L' β' c.S0 c.W ∧ Ext c w' ∧ VR (memOf w'.heap L' β' c.S0) r v

/-- From this place and this state the function returns, with a value and objects of which R says what they are. -/
def AGo (c : Ctx) (f : FuncId) (todo : List Item) (σ : AState) (R : AV → List AObj → Prop) : Prop :=
  ∀ (b : Frame) a w β cs, b.fn = f → b.kind = .normal → Rel c σ a w β →
    ∃ v w' fr, Steps c.P (lone (b.at a todo) cs w) (lone fr cs w') ∧ fr.fn = f ∧ fr.leaving c.P w' (.returned v) ∧ Fin c R v w'

variable {c : Ctx} {f : FuncId} {σ : AState} {R : AV → List AObj → Prop} {k : List Item}

theorem AGo.step1 {t t' : List Item} (h : AGo c f t' σ R) (hs : ∀ (b : Frame) a cs w, step c.P (lone (b.at a t) cs w) = .next (lone (b.at a t') cs w)) : AGo c f t σ R :=
  fun b a w β cs h1 h2 hr => let ⟨v, w', fr, s, r⟩ := h b a w β cs h1 h2 hr; ⟨v, w', fr, .head (hs b a cs w) s, r⟩

theorem AGo.seq {x y : Code} (h : AGo c f (.code x :: .code y :: k) σ R) : AGo c f (.code (.seq x y) :: k) σ R := h.step1 fun _ _ _ _ => step_seq
theorem AGo.skip (h : AGo c f k σ R) : AGo c f (.code .skip :: k) σ R := h.step1 fun _ _ _ _ => step_skip
theorem AGo.label {l : Nat} (h : AGo c f k σ R) : AGo c f (.code (.label l) :: k) σ R := h.step1 fun _ _ _ _ => step_label
theorem AGo.block {id : Nat} {x : Code} (h : AGo c f (.code x :: .inBlock id :: k) σ R) : AGo c f (.code (.block id x) :: k) σ R := h.step1 fun _ _ _ _ => step_block
theorem AGo.inBlock {id : Nat} (h : AGo c f k σ R) : AGo c f (.inBlock id :: k) σ R := h.step1 fun _ _ _ _ => step_inBlock
theorem AGo.loop {x : Code} (h : AGo c f (.code x :: .inLoop x :: k) σ R) : AGo c f (.code (.loop x) :: k) σ R := h.step1 fun _ _ _ _ => step_loop
theorem AGo.inLoop {x : Code} (h : AGo c f (.code x :: .inLoop x :: k) σ R) : AGo c f (.inLoop x :: k) σ R := h.step1 fun _ _ _ _ => step_inLoop
theorem AGo.exit {id : Nat} {k' : List Item} (he : exitTo id k = some k') (h : AGo c f k' σ R) : AGo c f (.code (.exit id) :: k) σ R := h.step1 fun _ _ _ _ => step_exit he

theorem AGo.cond {x : Operand} {t e : Code} {b : Bool} (hx : σ.rd x = .bool b) (h : AGo c f (.code (if b then t else e) :: k) σ R) : AGo c f (.code (.cond x t e) :: k) σ R := by
  intro fr a w β cs h1 h2 hr
  obtain ⟨v, w', fr', s, r⟩ := h fr a w β cs h1 h2 hr
  have hv := (hx ▸ hr.rd x : VR _ (.bool b) _).bool
  exact ⟨v, w', fr', .head (step_cond hv) s, r⟩

theorem AGo.ite {x : Operand} {t e : Code} {b : Bool} (hx : σ.rd x = .bool b) (h1 : b = true → AGo c f (.code t :: k) σ R) (h2 : b = false → AGo c f (.code e :: k) σ R) :
    AGo c f (.code (.cond x t e) :: k) σ R := by
  refine AGo.cond hx ?_
  cases b
  · exact h2 rfl
  · exact h1 rfl

theorem AGo.weaken {env' : Nat → AV} (h : AGo c f k ⟨env', σ.L⟩ R) (he : ∀ i, env' i = .any ∨ env' i = σ.env i) : AGo c f k σ R :=
  fun b a w β cs h1 h2 hr => h b a w β cs h1 h2 (hr.weaken he)

/-- A frame's slots, by a list. -/
def lk (l : List (Nat × AV)) (i : Nat) : AV :=
  match l with
  | [] => .any
  | (j, x) :: r => if i = j then x else lk r i

theorem lk_restrict (ps : List Nat) (g : Nat → AV) (i : Nat) : lk (ps.map fun j => (j, g j)) i = .any ∨ lk (ps.map fun j => (j, g j)) i = g i := by
  induction ps with
  | nil => exact .inl rfl
  | cons j ps ih =>
    simp only [List.map_cons, lk]
    by_cases h : i = j
    · right; rw [if_pos h, h]
    · rw [if_neg h]; exact ih

/-- Only these slots are kept in mind. -/
theorem AGo.keep (ps : List Nat) (h : AGo c f k ⟨lk (ps.map fun j => (j, σ.env j)), σ.L⟩ R) : AGo c f k σ R :=
  h.weaken (lk_restrict ps σ.env)

/-- A region whose order is the text's. -/
theorem AGo.region {id : Nat} {ops : Array Oper} {K : AState → Prop} (h : AOps c ops ops.toList σ K) (hK : ∀ σ', K σ' → AGo c f k σ' R) : AGo c f (.code (.region id ops false) :: k) σ R := by
  intro b a w β cs h1 h2 hr
  obtain ⟨e, a', w', ⟨rfl, σ', β', g1, g2⟩, harr⟩ := wp_region_list (id := id) (h a w β hr) b k cs
  obtain ⟨v, w'', fr, s, r⟩ := hK σ' g1 b a' w' β' cs h1 h2 g2
  exact ⟨v, w'', fr, Steps.trans harr s, r⟩

/-! ### Results -/

def resOne (P : Program) (σ : AState) : ResultVar → Option AV
  | .tmp t => some (σ.env t)
  | .cell x t => (aop P σ (.load t (.tmp x))).map (·.1)

def resAll (P : Program) (σ : AState) : List ResultVar → Option (List AV)
  | [] => some []
  | x :: xs => (resOne P σ x).bind fun y => (resAll P σ xs).bind fun ys => if noTup y then some (y :: ys) else none

def resAV (P : Program) (σ : AState) (rs : List ResultVar) : Option AV :=
  (resAll P σ rs).bind fun xs => match xs with
    | [x] => some x
    | xs => some (.tup xs)

def resSem (tmps : Array Value) : ResultVar → Sem Value
  | .tmp t => pure (tmps.getD t undef)
  | .cell x t => do loadVar t (← asAddr (tmps.getD x undef))

theorem res_one {a : Act} {w : World} {β : List PO} (h : Rel c σ a w β) {rv : ResultVar} {x : AV} (hx : resOne c.P σ rv = some x) :
    ∃ v, (resSem a.tmps rv).run c.P w = .ok v w ∧ VR (memOf w.heap σ.L β c.S0) x v := by
  cases rv with
  | tmp t =>
    simp only [resOne, Option.some.injEq] at hx
    subst hx
    exact ⟨_, rfl, h.env t⟩
  | cell y t =>
    simp only [resOne, Option.map_eq_some_iff] at hx
    obtain ⟨⟨z, L'⟩, h1, rfl⟩ := hx
    simp only [aop] at h1
    have key : ∀ (ad : Addr), a.eval (.tmp y) = .pointer (some ad) → ∀ v, (loadVar t ad).run c.P w = .ok v w → (resSem a.tmps (.cell y t)).run c.P w = .ok v w := fun ad he v hv => by
      simp only [Act.eval] at he
      simp only [resSem, he, asAddr, Sem.run_bind, Sem.run_pure, Result.andThen_ok, hv]
    split at h1
    · rename_i k sz z' ht hy
      split at h1
      · rename_i hc
        simp only [Option.some.injEq, Prod.mk.injEq] at h1
        obtain ⟨rfl, rfl⟩ := h1
        obtain ⟨ad, c1, e1, e2, _, e4, e5⟩ := (hy ▸ h.rd (.tmp y) : VR _ (.ref z') _).ref
        obtain ⟨v, r1, r2⟩ := run_loadVar (P := c.P) (w := w) ht e2 e5 e4 hc.1 hc.2
        exact ⟨v, key ad e1 v r1, r2⟩
      · cases h1
    · rename_i k sz oo ver i path off ht hy
      split at h1
      · rename_i obj hL
        split at h1
        · rename_i hc
          simp only [Option.bind_eq_some_iff] at h1
          obtain ⟨e, he1, z', hz, h1⟩ := h1
          split at h1
          · rename_i hc2
            simp only [Option.some.injEq, Prod.mk.injEq] at h1
            obtain ⟨rfl, rfl⟩ := h1
            obtain ⟨po, k1, k2, k3⟩ := h.addr hy hL hc.1
            obtain ⟨cs, g1, g2⟩ := h.heap.read hL k1 k2 he1 hz hc2.1
            obtain ⟨v, r1, r2⟩ := run_loadVar (P := c.P) (w := w) (ad := ⟨po.b, i * obj.esz + off, none⟩) ht rfl g2 g1 hc2.2.1 hc2.2.2
            exact ⟨v, key _ k3 v r1, r2⟩
          · cases h1
        · cases h1
      · cases h1
    · cases h1

theorem res_all {a : Act} {w : World} {β : List PO} (h : Rel c σ a w β) : ∀ {rs : List ResultVar} {xs : List AV}, resAll c.P σ rs = some xs →
    ∃ vs, (rs.mapM (resSem a.tmps)).run c.P w = .ok vs w ∧ VRs (memOf w.heap σ.L β c.S0) xs vs ∧ xs.all noTup = true
  | [], xs, hx => by
    simp only [resAll, Option.some.injEq] at hx
    subst hx
    exact ⟨[], by simp, by simp [VRs], rfl⟩
  | rv :: rs, xs, hx => by
    simp only [resAll, Option.bind_eq_some_iff] at hx
    obtain ⟨y, h1, ys, h2, h3⟩ := hx
    split at h3
    · rename_i hn
      simp only [Option.some.injEq] at h3
      subst h3
      obtain ⟨v, r1, r2⟩ := res_one h h1
      obtain ⟨vs, r3, r4, r5⟩ := res_all h h2
      refine ⟨v :: vs, ?_, ?_, by simp [hn, r5]⟩
      · simp only [List.mapM_cons, Sem.run_bind, r1, Result.andThen_ok, r3, Sem.run_pure]
      · simp only [VRs]
        refine ⟨v, vs, rfl, ?_, r4⟩
        cases y <;> simp_all [VR, noTup]
    · cases h3

theorem res_av {a : Act} {w : World} {β : List PO} (h : Rel c σ a w β) {fn : Func} {r : AV} (hr : resAV c.P σ fn.results.toList = some r) :
    ∃ v, (results fn a.tmps).run c.P w = .ok v w ∧ VR (memOf w.heap σ.L β c.S0) r v := by
  simp only [resAV, Option.bind_eq_some_iff] at hr
  obtain ⟨xs, h1, h2⟩ := hr
  obtain ⟨vs, g1, g2, g3⟩ := res_all h h1
  have hrun : (results fn a.tmps).run c.P w = .ok (if h : vs.toArray.size = 1 then vs.toArray[0] else .tuple vs.toArray) w := by
    unfold results
    have : (fn.results.mapM (resSem a.tmps)).run c.P w = .ok vs.toArray w := by
      rw [Array.mapM_eq_mapM_toList]
      simp only [Sem.run_map, g1, Result.andThen_ok]
    simp only [Sem.run_bind]
    have hsame : ∀ g : ResultVar → Sem Value, (∀ x, g x = resSem a.tmps x) → fn.results.mapM g = fn.results.mapM (resSem a.tmps) := fun g hg => by rw [show g = resSem a.tmps from funext hg]
    rw [hsame _ (fun x => by cases x <;> rfl), this]
    rfl
  have hlen := VRs.len g2
  refine ⟨_, hrun, ?_⟩
  split at h2
  · rename_i x
    simp only [Option.some.injEq] at h2
    subst h2
    simp only [VRs] at g2
    obtain ⟨v, vs', rfl, e1, rfl⟩ := g2
    simp only [List.size_toArray, List.length_singleton, dite_true, List.getElem_toArray, List.getElem_cons_zero]
    simp only [List.all_cons, List.all_nil, Bool.and_true] at g3
    cases x <;> simp_all [VR, noTup]
  · rename_i hne
    simp only [Option.some.injEq] at h2
    subst h2
    rw [dif_neg]
    · simp only [VR]
      exact ⟨vs, rfl, g2⟩
    · simp only [List.size_toArray]
      rw [hlen]
      intro h9
      obtain ⟨y, rfl⟩ := List.length_eq_one_iff.1 h9
      exact hne y rfl

/-- What is returned, and which objects stay. -/
def Exports (c : Ctx) (σ : AState) (r0 : AV) (R : AV → List AObj → Prop) : Prop :=
  ∀ a w β v, Rel c σ a w β → VR (memOf w.heap σ.L β c.S0) r0 v → Fin c R v w

theorem AGo.ret_of {fn : Func} {r : AV} (hf : c.P.funcs[f]? = some fn) (hr : resAV c.P σ fn.results.toList = some r) (he : Exports c σ r R) : AGo c f (.code .ret :: k) σ R := by
  intro b a w β cs h1 h2 hrel
  obtain ⟨v, g1, g2⟩ := res_av hrel hr
  exact ⟨v, w, _, .one step_ret, h1, ⟨rfl, hrel.defers, h2, fn, by rw [show ({ b.at a (.code .ret :: k) with mode := .returning } : Frame).fn = b.fn from rfl, h1]; exact hf, g1⟩, he a w β v hrel g2⟩

theorem AGo.end_of {fn : Func} {r : AV} (hf : c.P.funcs[f]? = some fn) (hr : resAV c.P σ fn.results.toList = some r) (he : Exports c σ r R) : AGo c f [] σ R := by
  intro b a w β cs h1 h2 hrel
  obtain ⟨v, g1, g2⟩ := res_av hrel hr
  exact ⟨v, w, _, .one step_end, h1, ⟨rfl, hrel.defers, h2, fn, by rw [show ({ b.at a [] with mode := .returning } : Frame).fn = b.fn from rfl, h1]; exact hf, g1⟩, he a w β v hrel g2⟩

theorem Exports.all {r : AV} (h : R r σ.L) : Exports c σ r R :=
  fun a w β v hrel hv => ⟨r, σ.L, β, h, hrel.le, hrel.heap, hrel.ext, hv⟩

/-! ### Objects given up, and others numbered anew -/

mutual
def AV.ren (g : Nat → Nat) : AV → AV
  | .agg xs => .agg (AV.renL g xs)
  | .tup xs => .tup (AV.renL g xs)
  | .slice xs => .slice (AV.renL g xs)
  | .ref x => .ref (AV.ren g x)
  | .fn f caps => .fn f (AV.renL g caps)
  | .own o ver off len => .own (g o) ver off len
  | .addr o ver i path off => .addr (g o) ver i path off
  | x => x
def AV.renL (g : Nat → Nat) : List AV → List AV
  | [] => []
  | x :: xs => AV.ren g x :: AV.renL g xs
end

mutual
/-- All objects that a value names are such. -/
def AV.ids (p : Nat → Bool) : AV → Bool
  | .agg xs => AV.idsL p xs
  | .tup xs => AV.idsL p xs
  | .slice xs => AV.idsL p xs
  | .ref x => AV.ids p x
  | .fn _ caps => AV.idsL p caps
  | .own o _ _ _ => p o
  | .addr o _ _ _ _ => p o
  | _ => true
def AV.idsL (p : Nat → Bool) : List AV → Bool
  | [] => true
  | x :: xs => AV.ids p x && AV.idsL p xs
end

theorem AV.renL_length (g : Nat → Nat) : ∀ xs : List AV, (AV.renL g xs).length = xs.length
  | [] => rfl
  | x :: xs => by simp [AV.renL, AV.renL_length g xs]

mutual
theorem AV.ren_size (g : Nat → Nat) : ∀ x : AV, (AV.ren g x).size = x.size
  | .agg xs => by simp only [AV.ren, AV.size]; exact AV.renL_sizes g xs
  | .tup xs => rfl
  | .slice xs => rfl
  | .ref x => rfl
  | .fn f caps => rfl
  | .own .. => rfl
  | .addr .. => rfl
  | .any => rfl
  | .int .. => rfl
  | .bool _ => rfl
  | .str _ => rfl
  | .nilS => rfl
  | .nilP => rfl
theorem AV.renL_sizes (g : Nat → Nat) : ∀ xs : List AV, AV.sizes (AV.renL g xs) = AV.sizes xs
  | [] => rfl
  | x :: xs => by simp only [AV.renL, AV.sizes, AV.ren_size g x, AV.renL_sizes g xs]
end

theorem AV.renL_get (g : Nat → Nat) : ∀ (xs : List AV) (i : Nat), (AV.renL g xs)[i]? = (xs[i]?).map (AV.ren g)
  | [], i => by simp [AV.renL]
  | x :: xs, 0 => by simp [AV.renL]
  | x :: xs, i + 1 => by simp [AV.renL, AV.renL_get g xs i]

/-- One memory knows of the objects of p, under other numbers, what the other one knows. -/
structure Mem.Ren (p : Nat → Bool) (g : Nat → Nat) (m m' : Mem) : Prop where
  S : ∀ b, m'.S b → m.S b
  h : m'.h = m.h
  own : ∀ o ver off len v, p o = true → m.X (.own o ver off len) v → m'.X (.own (g o) ver off len) v
  addr : ∀ o ver i path off v, p o = true → m.X (.addr o ver i path off) v → m'.X (.addr (g o) ver i path off) v

mutual
theorem CR.ren {p : Nat → Bool} {g : Nat → Nat} {m m' : Mem} (hl : m.Ren p g m') : ∀ (x : AV) (cs : List Value), x.ids p = true → CR m x cs → CR m' (x.ren g) cs
  | .any, cs, _, h => by simpa [CR, AV.ren] using h
  | .int k n, cs, _, h => by simpa [CR, AV.ren] using h
  | .bool b, cs, _, h => by simpa [CR, AV.ren] using h
  | .str s, cs, _, h => by simpa [CR, AV.ren] using h
  | .agg xs, cs, hi, h => by simp only [CR, AV.ren, AV.ids] at h hi ⊢; exact CRs.ren hl xs cs hi h
  | .tup xs, cs, _, h => by simp [CR] at h
  | .slice xs, cs, hi, h => by
    simp only [CR, AV.ren, AV.ids, AV.renL_length] at h hi ⊢
    obtain ⟨a, cap, h1, h2, h3⟩ := h
    refine ⟨a, cap, h1, h2, ?_⟩
    rcases h3 with rfl | ⟨ad, sz, h3, h4, h5, h6⟩
    · exact .inl rfl
    · exact .inr ⟨ad, sz, h3, h4, fun hb => h5 (hl.S _ hb), CRrow.ren hl _ _ xs _ hi h6⟩
  | .ref x, cs, hi, h => by
    simp only [CR, AV.ren, AV.ids] at h hi ⊢
    obtain ⟨ad, c1, h1, h2, h3, h4, h5⟩ := h
    exact ⟨ad, c1, h1, h2, fun hb => h3 (hl.S _ hb), CR.ren hl x c1 hi h4, by rw [hl.h]; exact h5⟩
  | .nilS, cs, _, h => by simpa [CR, AV.ren] using h
  | .nilP, cs, _, h => by simpa [CR, AV.ren] using h
  | .fn f caps, cs, hi, h => by
    simp only [CR, AV.ren, AV.ids] at h hi ⊢
    obtain ⟨vs, h1, h2⟩ := h
    exact ⟨vs, h1, CRcaps.ren hl caps vs hi h2⟩
  | .own o ver off len, cs, hi, h => by
    simp only [CR, AV.ren, AV.ids] at h hi ⊢
    obtain ⟨v, h1, h2, h3⟩ := h
    exact ⟨v, h1, h2, hl.own _ _ _ _ _ hi h3⟩
  | .addr o ver i path off, cs, hi, h => by
    simp only [CR, AV.ren, AV.ids] at h hi ⊢
    obtain ⟨v, h1, h2, h3⟩ := h
    exact ⟨v, h1, h2, hl.addr _ _ _ _ _ _ hi h3⟩
theorem CRs.ren {p : Nat → Bool} {g : Nat → Nat} {m m' : Mem} (hl : m.Ren p g m') : ∀ (xs : List AV) (cs : List Value), AV.idsL p xs = true → CRs m xs cs → CRs m' (AV.renL g xs) cs
  | [], cs, _, h => by simpa [CRs, AV.renL] using h
  | x :: xs, cs, hi, h => by
    simp only [CRs, AV.renL, AV.idsL, Bool.and_eq_true] at h hi ⊢
    obtain ⟨c1, c2, h1, h2, h3⟩ := h
    exact ⟨c1, c2, h1, CR.ren hl x c1 hi.1 h2, CRs.ren hl xs c2 hi.2 h3⟩
theorem CRrow.ren {p : Nat → Bool} {g : Nat → Nat} {m m' : Mem} (hl : m.Ren p g m') (b sz : Nat) : ∀ (xs : List AV) (off : Nat), AV.idsL p xs = true → CRrow m b sz xs off → CRrow m' b sz (AV.renL g xs) off
  | [], off, _, h => by simp [CRrow, AV.renL]
  | x :: xs, off, hi, h => by
    simp only [CRrow, AV.renL, AV.idsL, Bool.and_eq_true] at h hi ⊢
    obtain ⟨⟨cs, h1, h2, h3⟩, h4⟩ := h
    exact ⟨⟨cs, CR.ren hl x cs hi.1 h1, h2, by rw [hl.h]; exact h3⟩, CRrow.ren hl b sz xs _ hi.2 h4⟩
theorem CRcaps.ren {p : Nat → Bool} {g : Nat → Nat} {m m' : Mem} (hl : m.Ren p g m') : ∀ (xs : List AV) (vs : List Value), AV.idsL p xs = true → CRcaps m xs vs → CRcaps m' (AV.renL g xs) vs
  | [], vs, _, h => by simpa [CRcaps, AV.renL] using h
  | x :: xs, vs, hi, h => by
    simp only [CRcaps, AV.renL, AV.idsL, Bool.and_eq_true] at h hi ⊢
    obtain ⟨v, vs', h1, h2, h3⟩ := h
    exact ⟨v, vs', h1, CR.ren hl x [v] hi.1 h2, CRcaps.ren hl xs vs' hi.2 h3⟩
end

theorem VR1.ren {p : Nat → Bool} {g : Nat → Nat} {m m' : Mem} (hl : m.Ren p g m') (x : AV) (v : Value) (hi : x.ids p = true) (h : VR1 m x v) : VR1 m' (x.ren g) v := by
  cases x
  case agg xs =>
    simp only [VR1, AV.ren, AV.ids] at h hi ⊢
    obtain ⟨cs, h1, h2⟩ := h
    exact ⟨cs, h1, CRs.ren hl _ _ hi h2⟩
  case tup xs => simp [VR1] at h
  case any => simp [VR1, AV.ren]
  all_goals
    have := CR.ren hl _ _ hi h
    simpa [VR1, AV.ren] using this

theorem VRs.ren {p : Nat → Bool} {g : Nat → Nat} {m m' : Mem} (hl : m.Ren p g m') : ∀ (xs : List AV) (vs : List Value), AV.idsL p xs = true → VRs m xs vs → VRs m' (AV.renL g xs) vs
  | [], vs, _, h => by simpa [VRs, AV.renL] using h
  | x :: xs, vs, hi, h => by
    simp only [VRs, AV.renL, AV.idsL, Bool.and_eq_true] at h hi ⊢
    obtain ⟨v, vs', h1, h2, h3⟩ := h
    exact ⟨v, vs', h1, VR1.ren hl x v hi.1 h2, VRs.ren hl xs vs' hi.2 h3⟩

theorem VR.ren {p : Nat → Bool} {g : Nat → Nat} {m m' : Mem} (hl : m.Ren p g m') (x : AV) (v : Value) (hi : x.ids p = true) (h : VR m x v) : VR m' (x.ren g) v := by
  cases x
  case tup xs =>
    simp only [VR, AV.ren, AV.ids] at h hi ⊢
    obtain ⟨vs, h1, h2⟩ := h
    exact ⟨vs, h1, VRs.ren hl _ _ hi h2⟩
  all_goals
    have := VR1.ren hl _ _ hi (by simpa [VR] using h)
    simpa [VR, AV.ren] using this

def AObj.ren (g : Nat → Nat) (o : AObj) : AObj := { o with elems := AV.renL g o.elems }

/-- Of these objects alone something is known on; number ks[j] becomes j. -/
theorem HeapRel.pick {h : Heap} {L : List AObj} {β : List PO} {S0 W : Nat → Prop} (hr : HeapRel h L β S0 W) (ks : List Nat) (hk : ∀ k ∈ ks, k < L.length) (hnd : ks.Nodup)
    (hids : ∀ k ∈ ks, ∀ obj, L[k]? = some obj → AV.idsL (ks.contains ·) obj.elems = true) :
    ∃ β', (memOf h L β S0).Ren (ks.contains ·) (ks.idxOf ·) (memOf h (ks.map fun k => (L.getD k default).ren (ks.idxOf ·)) β' S0) ∧
      HeapRel h (ks.map fun k => (L.getD k default).ren (ks.idxOf ·)) β' S0 W := by
  obtain ⟨β', hβ'⟩ : ∃ β', β' = ks.map fun k => β.getD k ⟨0, 0⟩ := ⟨_, rfl⟩
  have getL : ∀ (j : Nat) (ob : AObj), (ks.map fun k => (L.getD k default).ren (ks.idxOf ·))[j]? = some ob → ∃ k obj, ks[j]? = some k ∧ L[k]? = some obj ∧ ob = obj.ren (ks.idxOf ·) ∧ k ∈ ks := fun j ob hj => by
    rw [List.getElem?_map] at hj
    cases hks : ks[j]? with
    | none => rw [hks] at hj; simp at hj
    | some k =>
      rw [hks] at hj
      simp only [Option.map_some, Option.some.injEq] at hj
      have hmem := List.mem_of_getElem? hks
      have hlt := hk k hmem
      exact ⟨k, L[k], rfl, List.getElem?_eq_getElem hlt, by rw [← hj]; simp [List.getD, hlt], hmem⟩
  have getB : ∀ (j : Nat) (p : PO), β'[j]? = some p → ∀ k, ks[j]? = some k → β[k]? = some p := fun j p hj k hks => by
    rw [hβ', List.getElem?_map, hks] at hj
    simp only [Option.map_some, Option.some.injEq] at hj
    have hlt := hk k (List.mem_of_getElem? hks)
    rw [← hr.len] at hlt
    rw [List.getElem?_eq_getElem hlt, ← hj]
    simp [List.getD, hlt]
  have toL : ∀ (o : Nat) (obj : AObj) (po : PO), o ∈ ks → L[o]? = some obj → β[o]? = some po →
      (ks.map fun k => (L.getD k default).ren (ks.idxOf ·))[ks.idxOf o]? = some (obj.ren (ks.idxOf ·)) ∧ β'[ks.idxOf o]? = some po := fun o obj po hm h1 h2 => by
    have hlt : ks.idxOf o < ks.length := List.idxOf_lt_length_iff.2 hm
    have hget : ks[ks.idxOf o]? = some o := by rw [List.getElem?_eq_getElem hlt, List.getElem_idxOf]
    constructor
    · rw [List.getElem?_map, hget]
      simp [List.getD, h1]
    · rw [hβ', List.getElem?_map, hget]
      simp [List.getD, h2]
  have hren : (memOf h L β S0).Ren (ks.contains ·) (ks.idxOf ·) (memOf h (ks.map fun k => (L.getD k default).ren (ks.idxOf ·)) β' S0) := by
    refine ⟨fun b hb => ?_, rfl, fun o ver off len v hp hx => ?_, fun o ver i path off v hp hx => ?_⟩
    · rcases hb with hb | ⟨j, ob, p, h1, h2, h3, h4, h5⟩
      · exact .inl hb
      · obtain ⟨k, obj, e1, e2, rfl, _⟩ := getL j ob h1
        exact .inr ⟨k, obj, p, e2, getB j p h2 k e1, h3, h4, h5⟩
    · simp only [memOf, ownX] at hx ⊢
      obtain ⟨obj, po, h1, h2, h3, h4⟩ := hx
      obtain ⟨e1, e2⟩ := toL o obj po (by simpa using hp) h1 h2
      exact ⟨_, po, e1, e2, h3, h4⟩
    · simp only [memOf, ownX] at hx ⊢
      obtain ⟨obj, po, h1, h2, h3, h4⟩ := hx
      obtain ⟨e1, e2⟩ := toL o obj po (by simpa using hp) h1 h2
      exact ⟨_, po, e1, e2, h3, h4⟩
  refine ⟨β', hren, ⟨by simp [hβ'], ?_, ?_, ?_, ?_, ?_, ?_, ?_, ?_⟩⟩
  · intro j ob h1 h2
    obtain ⟨k, obj, e1, e2, rfl, _⟩ := getL j ob h1
    have := hr.nil k obj e2 h2
    simp [AObj.ren, this, AV.renL]
  · intro j ob p h1 h2 h3
    obtain ⟨k, obj, e1, e2, rfl, _⟩ := getL j ob h1
    exact hr.esz k obj p e2 (getB j p h2 k e1) h3
  · intro j ob p h1 h2 h3
    obtain ⟨k, obj, e1, e2, rfl, _⟩ := getL j ob h1
    exact hr.S k obj p e2 (getB j p h2 k e1) h3
  · intro j ob p h1 h2 h3 h4
    obtain ⟨k, obj, e1, e2, rfl, _⟩ := getL j ob h1
    exact hr.W k obj p e2 (getB j p h2 k e1) h3 h4
  · intro j ob p h1 h2 h3
    obtain ⟨k, obj, e1, e2, rfl, _⟩ := getL j ob h1
    have := hr.room k obj p e2 (getB j p h2 k e1) h3
    simpa [AObj.ren, AV.renL_length] using this
  · intro j ob p h1 h2 h3
    obtain ⟨k, obj, e1, e2, rfl, hm⟩ := getL j ob h1
    exact CRrow.ren hren _ _ _ _ (hids k hm obj e2) (hr.row k obj p e2 (getB j p h2 k e1) h3)
  · intro j ob p h1 h2 h3
    obtain ⟨k, obj, e1, e2, rfl, _⟩ := getL j ob h1
    exact hr.free k obj p e2 (getB j p h2 k e1) h3
  · intro j j' ob ob' p p' h1 h1' h2 h2' h3 h3' hb
    obtain ⟨k, obj, e1, e2, rfl, _⟩ := getL j ob h1
    obtain ⟨k', obj', e1', e2', rfl, _⟩ := getL j' ob' h1'
    have := hr.inj k k' obj obj' p p' e2 e2' (getB j p h2 k e1) (getB j' p' h2' k' e1') h3 h3' hb
    subst this
    have hlt := (List.getElem?_eq_some_iff.1 e1).1
    have hlt' := (List.getElem?_eq_some_iff.1 e1').1
    exact (List.getElem?_inj hlt hnd).1 (by rw [e1, e1'])

/-- The caller's objects stay as they are numbered; those of ks follow them. -/
theorem Exports.pick {r : AV} (ks : List Nat) (hk : ∀ k ∈ ks, k < σ.L.length) (hnd : ks.Nodup) (h0 : ∀ i, i < c.L0.length → ks[i]? = some i)
    (hids : ∀ k ∈ ks, ∀ obj, σ.L[k]? = some obj → AV.idsL (ks.contains ·) obj.elems = true) (hr : r.ids (ks.contains ·) = true)
    (hR : R (r.ren (ks.idxOf ·)) (ks.map fun k => (σ.L.getD k default).ren (ks.idxOf ·))) : Exports c σ r R := by
  intro a w β v hrel hv
  obtain ⟨β', g1, g2⟩ := hrel.heap.pick ks hk hnd hids
  refine ⟨_, _, β', hR, ?_, g2, hrel.ext, VR.ren g1 _ _ hr hv⟩
  refine ⟨fun b hb => hrel.le.S b (g1.S b hb), hrel.le.h, fun x u hx => ?_, hrel.le.size⟩
  have hx' := hrel.le.X x u hx
  have inks : ∀ o, o < c.L0.length → ks.contains o = true ∧ ks.idxOf o = o := fun o ho => by
    have h1 := h0 o ho
    have hm := List.mem_of_getElem? h1
    refine ⟨by simpa using hm, ?_⟩
    have hlt : ks.idxOf o < ks.length := List.idxOf_lt_length_iff.2 hm
    have hget : ks[ks.idxOf o]? = some o := by rw [List.getElem?_eq_getElem hlt, List.getElem_idxOf]
    exact (List.getElem?_inj hlt hnd).1 (by rw [hget, h1])
  cases x <;> simp only [Ctx.m0, memOf, ownX] at hx
  case own o ver off len =>
    obtain ⟨obj, po, h1, _⟩ := hx
    obtain ⟨e1, e2⟩ := inks o (List.getElem?_eq_some_iff.1 h1).1
    have := g1.own o ver off len u e1 hx'
    rwa [e2] at this
  case addr o ver i path off =>
    obtain ⟨obj, po, h1, _⟩ := hx
    obtain ⟨e1, e2⟩ := inks o (List.getElem?_eq_some_iff.1 h1).1
    have := g1.addr o ver i path off u e1 hx'
    rwa [e2] at this

/-! ### A function's contract, out of its code -/

theorem HeapRel.monoW {h : Heap} {L : List AObj} {β : List PO} {S0 W W' : Nat → Prop} (hr : HeapRel h L β S0 W) (hw : ∀ b, W b → W' b) : HeapRel h L β S0 W' :=
  ⟨hr.len, hr.nil, hr.esz, hr.S, fun o ob p h1 h2 h3 h4 => hw _ (hr.W o ob p h1 h2 h3 h4), hr.room, hr.row, hr.free, hr.inj⟩

/-- The arguments' slots. -/
def argEnv : List AV → Nat → List (Nat × AV)
  | [], _ => []
  | x :: xs, i => (i, x) :: argEnv xs (i + 1)

theorem argEnv_lk : ∀ (xs : List AV) (k i : Nat), lk (argEnv xs k) i = (if k ≤ i then xs.getD (i - k) .any else .any)
  | [], k, i => by simp [argEnv, lk]
  | x :: xs, k, i => by
    simp only [argEnv, lk]
    by_cases h : i = k
    · subst h; simp
    · rw [if_neg h, argEnv_lk xs (k + 1) i]
      by_cases h2 : k + 1 ≤ i
      · rw [if_pos h2, if_pos (by omega)]
        rw [show i - k = (i - (k + 1)) + 1 from by omega]
        simp
      · rw [if_neg h2, if_neg (by omega)]

theorem VRs.get {m : Mem} : ∀ {xs : List AV} {vs : List Value} (i : Nat), VRs m xs vs → VR1 m (xs.getD i .any) (vs.getD i undef) ∨ xs.length ≤ i
  | [], vs, i, h => .inr (Nat.zero_le _)
  | x :: xs, vs, i, h => by
    simp only [VRs] at h
    obtain ⟨v, vs', rfl, h1, h2⟩ := h
    cases i with
    | zero => exact .inl (by simpa using h1)
    | succ i =>
      rcases VRs.get i h2 with h3 | h3
      · exact .inl (by simpa using h3)
      · exact .inr (by simp; omega)

theorem ACall.body {P : Program} {fn : Func} {code : Code} {args : List AV} {L : List AObj} (hcl : callable P f = true) (hf : P.funcs[f]? = some fn) (hb : fn.body = some code) (hn : args.length ≤ fn.ntmps)
    (hall : args.all noTup = true)
    (h : ∀ c : Ctx, c.P = P → c.n = fn.ntmps → c.L0 = L → AGo c f [.code code] ⟨lk (argEnv args 0), L⟩ R) : ACall P f args L R := by
  refine ⟨hcl, fun w β S0 W vals hS hW hheap hvals => ?_⟩
  have hgo := h ⟨P, fn.ntmps, w, S0, W, L, β⟩ rfl rfl rfl
  intro cs
  let b : Frame := { (default : Frame) with fn := f, kind := .normal }
  let a : Act := { tmps := vals.toArray ++ Array.replicate (fn.ntmps - vals.toArray.size) undef, defers := [] }
  have henter : Frame.enter P f vals.toArray .normal = b.at a [.code code] := by
    simp [Frame.enter, Frame.at, hf, hb, b, a]
  have hlen := VRs.len hvals
  have hrel : Rel ⟨P, fn.ntmps, w, S0, W, L, β⟩ ⟨lk (argEnv args 0), L⟩ a w β := by
    refine ⟨rfl, ?_, fun i => ?_, hheap.monoW fun b hb => .inr hb, ⟨rfl, rfl, rfl, Nat.le_refl _, fun _ _ _ => rfl⟩, hS, Mem.Le.refl _⟩
    · simp only [a, Array.size_append, List.size_toArray, Array.size_replicate]
      rw [hlen]; omega
    · simp only [argEnv_lk, Nat.zero_le, if_true, Nat.sub_zero]
      rcases VRs.get i hvals with h1 | h1
      · by_cases hi : i < args.length
        · have hget : a.tmps.getD i undef = vals.getD i undef := by
            have hi' : i < vals.length := by omega
            simp [a, Array.getElem?_append_left, hi', List.getD]
          rw [hget]
          have hno : noTup (args.getD i .any) = true := by
            have := List.all_eq_true.1 hall (args.getD i .any) (by simp [List.getD, hi])
            exact this
          revert h1 hno
          generalize args.getD i .any = x
          intro h1 hno
          cases x <;> simp_all [VR, noTup]
        · have : args.getD i .any = .any := by simp [List.getD, List.getElem?_eq_none (Nat.le_of_not_lt hi)]
          rw [this]; exact VR.any _
      · have : args.getD i .any = .any := by simp [List.getD, List.getElem?_eq_none h1]
        rw [this]; exact VR.any _
  obtain ⟨v, w', fr, s, h1, h2, r, L', β', h3, h4, h5, h6, h7⟩ := hgo b a w β cs rfl rfl hrel
  refine ⟨.returned v, w', fr, ⟨v, β', r, L', rfl, h3, h4, h5.monoW ?_, ⟨h6.os, h6.tape, h6.output, h6.size, fun k hk hn => h6.block k hk hn⟩, h7⟩, ?_, h1, h2⟩
  · rintro b (hb | hb)
    · exact hW b hb
    · exact hb
  · rw [henter]; exact s

end Go.Proofs.Ytpneikbihcoaaab.Vm

/- Regions that draw their order, told in the text's order. -/
import Derived.Test.YtpneikbihcoaaabVm19
namespace Go.Proofs.Ytpneikbihcoaaab.Vm
set_option linter.unusedVariables false
set_option linter.unusedSimpArgs false

variable {c : Ctx} {f : FuncId} {σ : AState} {R : AV → List AObj → Prop} {k : List Item} {ops : Array Oper}

/-- What one operation gives: its value, and the objects behind it; told exactly. -/
def Res (c : Ctx) (ops : Array Oper) (o : Oper) (env : Nat → AV) (L : List AObj) (x : AV) (L' : List AObj) : Prop :=
  (awanted ops env o = some false ∧ x = .tup [] ∧ L' = L) ∨
  (awanted ops env o = some true ∧ ((okind o ≠ 3 ∧ aopD c.P ⟨env, L⟩ o.op = some (x, L')) ∨
    (okind o = 3 ∧ L' = L ∧ ∃ g args, callee ⟨env, L⟩ o = some (g, args) ∧ args.all noTup = true ∧ ACall c.P g args L (Is x L))))

def StepE (c : Ctx) (ops : Array Oper) (o : Oper) (σ σ' : AState) : Prop :=
  guardOk c.n ops o = true ∧ dstOk c.n o.dst = true ∧ ∃ x L', Res c ops o σ.env σ.L x L' ∧ σ' = ⟨updO σ.env o.dst x, L'⟩

theorem updO_of_ne {g : Nat → AV} {d : Option Nat} {x : AV} {i : Nat} (h : ∀ j, d = some j → j ≠ i) : updO g d x i = g i := by
  cases d with
  | none => rfl
  | some j =>
    simp only [updO, upd]
    rw [if_neg fun e => h j rfl e.symm]

theorem updO_comm {g : Nat → AV} {d e : Option Nat} {x y : AV} (h : ∀ j, d = some j → e ≠ some j) : updO (updO g d x) e y = updO (updO g e y) d x := by
  cases d with
  | none => rfl
  | some i =>
    cases e with
    | none => rfl
    | some j =>
      have hne : i ≠ j := fun he => h i rfl (by rw [he])
      funext q
      simp only [updO, upd]
      by_cases h1 : q = j
      · rw [if_pos h1, if_neg (by omega), if_pos h1]
      · rw [if_neg h1]
        by_cases h2 : q = i
        · rw [if_pos h2, if_pos h2]
        · rw [if_neg h2, if_neg h2, if_neg h1]

/-- An operation looks at its own slots alone. -/
theorem Res.env {o : Oper} {env env' : Nat → AV} {L L' : List AObj} {x : AV} (h : Res c ops o env L x L') (he : ∀ t ∈ o.looksAt ops, env' t = env t) : Res c ops o env' L x L' := by
  have hw : awanted ops env' o = awanted ops env o := by
    unfold awanted
    cases hg : o.guard with
    | none => rfl
    | some gw =>
      obtain ⟨j, want⟩ := gw
      simp only
      cases hd : (ops[j]?).bind (·.dst) with
      | none => rfl
      | some d =>
        have : env' d = env d := he d (by simp [Oper.looksAt, hg, hd])
        simp only [this]
  have hrd : ∀ y ∈ o.op.operands, (⟨env, L⟩ : AState).rd y = (⟨env', L⟩ : AState).rd y := fun y hy => by
    cases y with
    | tmp t => exact (he t (by simp only [Oper.looksAt]; exact List.mem_append_left _ (List.mem_filterMap.2 ⟨.tmp t, by simpa using hy, rfl⟩))).symm
    | const v => rfl
    | global g => rfl
    | func g => rfl
  rcases h with ⟨h1, h2, h3⟩ | ⟨h1, h2⟩
  · exact .inl ⟨by rw [hw]; exact h1, h2, h3⟩
  · refine .inr ⟨by rw [hw]; exact h1, ?_⟩
    rcases h2 with ⟨h2, h3⟩ | ⟨h2, h3, g, args, h4, h5, h6⟩
    · exact .inl ⟨h2, by rw [← aopD_congr hrd rfl]; exact h3⟩
    · refine .inr ⟨h2, h3, g, args, ?_, h5, h6⟩
      rw [← h4]
      unfold callee
      unfold okind at h2
      cases hop : o.op <;> rw [hop] at h2 <;> simp only at h2 <;> try (simp at h2; done)
      rename_i cl
      obtain ⟨cal, cargs, catys⟩ := cl
      cases cal
      case value fo =>
        have hf := hrd fo (by rw [hop]; simp [Op.operands, Call.operands])
        have ha : cargs.toList.map (⟨env', L⟩ : AState).rd = cargs.toList.map (⟨env, L⟩ : AState).rd := List.map_congr_left fun y hy => (hrd y (by rw [hop]; simp [Op.operands, Call.operands]; right; simpa using hy)).symm
        simp only [← hf, ha]
      case invoke r m => simp at h2
      case builtin b => cases b <;> simp at h2

theorem Res.quiet0 {o : Oper} {env : Nat → AV} {L L' : List AObj} {x : AV} (hk : okind o = 0) (h : Res c ops o env L x L') : L' = L ∧ ∀ L2, Res c ops o env L2 x L2 := by
  rcases h with ⟨h1, h2, h3⟩ | ⟨h1, ⟨h2, h3⟩ | ⟨h2, _⟩⟩
  · exact ⟨h3, fun L2 => .inl ⟨h1, h2, rfl⟩⟩
  · obtain ⟨g1, g2⟩ := aopD_pure hk h3
    exact ⟨g1, fun L2 => .inr ⟨h1, .inl ⟨h2, g2 L2⟩⟩⟩
  · omega

theorem Res.quiet1 {o : Oper} {env : Nat → AV} {L L' : List AObj} {x : AV} (hk : okind o = 1) (h : Res c ops o env L x L') : L' = L ∧ ∀ M, Res c ops o env (L ++ M) x (L ++ M) := by
  rcases h with ⟨h1, h2, h3⟩ | ⟨h1, ⟨h2, h3⟩ | ⟨h2, _⟩⟩
  · exact ⟨h3, fun M => .inl ⟨h1, h2, rfl⟩⟩
  · obtain ⟨g1, g2⟩ := aopD_read hk h3
    exact ⟨g1, fun M => .inr ⟨h1, .inl ⟨h2, g2 M⟩⟩⟩
  · omega

theorem Res.quiet3 {o : Oper} {env : Nat → AV} {L L' : List AObj} {x : AV} (hk : okind o = 3) (h : Res c ops o env L x L') : L' = L := by
  rcases h with ⟨h1, h2, h3⟩ | ⟨h1, ⟨h2, h3⟩ | ⟨h2, h3, _⟩⟩
  · exact h3
  · omega
  · exact h3

theorem Res.make {o : Oper} {env : Nat → AV} {L L' : List AObj} {x : AV} (hk : okind o = 2) (h : Res c ops o env L x L') : ∃ M, L' = L ++ M := by
  rcases h with ⟨h1, h2, h3⟩ | ⟨h1, ⟨h2, h3⟩ | ⟨h2, h3, _⟩⟩
  · exact ⟨[], by simp [h3]⟩
  · obtain ⟨z, hz⟩ := aopD_make hk h3
    exact ⟨[z], hz⟩
  · omega

def quietK (n : Nat) : Bool := n ≤ 1 || n == 3

/-- May the later one be carried out first? -/
def acomm (ops : Array Oper) (x y : Oper) : Bool :=
  x.apart ops y && ((quietK (okind x) && quietK (okind y)) || (okind x ≤ 1 && okind y == 2) || okind y == 0 || okind x == 0)

theorem StepE.comm {x y : Oper} {σ σ1 σ2 : AState} (hc : acomm ops x y = true) (hx : StepE c ops x σ σ1) (hy : StepE c ops y σ1 σ2) : ∃ σ', StepE c ops y σ σ' ∧ StepE c ops x σ' σ2 := by
  obtain ⟨gx, dx, u, Lx, rx, rfl⟩ := hx
  obtain ⟨gy, dy, v, Ly, ry, rfl⟩ := hy
  unfold acomm at hc
  rw [Bool.and_eq_true] at hc
  obtain ⟨hap, hk⟩ := hc
  obtain ⟨a1, a2, a3⟩ := Oper.apart_spec hap
  have ey : ∀ (M M' : List AObj) (z : AV), Res c ops y (updO σ.env x.dst u) M z M' → Res c ops y σ.env M z M' := fun M M' z h => h.env fun t ht => (updO_of_ne fun j hj e => a1 j hj (e ▸ ht)).symm
  have ex : ∀ (M M' : List AObj) (z : AV), Res c ops x σ.env M z M' → Res c ops x (updO σ.env y.dst v) M z M' := fun M M' z h => h.env fun t ht => updO_of_ne fun j hj e => a3 j hj (e ▸ ht)
  have hcomm : updO (updO σ.env x.dst u) y.dst v = updO (updO σ.env y.dst v) x.dst u := updO_comm a2
  simp only at ry ⊢
  rw [hcomm]
  simp only [Bool.or_eq_true, Bool.and_eq_true] at hk
  rcases hk with ((⟨h1, h2⟩ | ⟨h1, h2⟩) | h2) | h1
  · have q : ∀ (o : Oper) (env : Nat → AV) (M M' : List AObj) (z : AV), quietK (okind o) = true → Res c ops o env M z M' → M' = M := fun o env M M' z hq hr => by
      simp only [quietK, Bool.or_eq_true, decide_eq_true_eq, beq_iff_eq] at hq
      rcases hq with hq | hq
      · rcases Nat.le_one_iff_eq_zero_or_eq_one.1 hq with h0 | h0
        · exact (Res.quiet0 h0 hr).1
        · exact (Res.quiet1 h0 hr).1
      · exact Res.quiet3 hq hr
    obtain rfl := q x _ _ _ _ h1 rx
    obtain rfl := q y _ _ _ _ h2 ry
    exact ⟨⟨updO σ.env y.dst v, σ.L⟩, ⟨gy, dy, v, _, ey _ _ _ ry, rfl⟩, gx, dx, u, _, ex _ _ _ rx, rfl⟩
  · simp only [decide_eq_true_eq, beq_iff_eq] at h1 h2
    obtain ⟨M, hM⟩ := Res.make h2 ry
    have hx2 : Lx = σ.L ∧ Res c ops x σ.env Ly u Ly := by
      rcases Nat.le_one_iff_eq_zero_or_eq_one.1 h1 with h0 | h0
      · obtain ⟨e1, e2⟩ := Res.quiet0 h0 rx
        exact ⟨e1, e2 Ly⟩
      · obtain ⟨e1, e2⟩ := Res.quiet1 h0 rx
        rw [hM, e1]
        exact ⟨rfl, e2 M⟩
    obtain ⟨rfl, hx3⟩ := hx2
    exact ⟨⟨updO σ.env y.dst v, Ly⟩, ⟨gy, dy, v, _, ey _ _ _ ry, rfl⟩, gx, dx, u, _, ex _ _ _ hx3, rfl⟩
  · simp only [beq_iff_eq] at h2
    obtain ⟨e1, e2⟩ := Res.quiet0 h2 ry
    subst e1
    exact ⟨⟨updO σ.env y.dst v, σ.L⟩, ⟨gy, dy, v, _, ey _ _ _ (e2 σ.L), rfl⟩, gx, dx, u, _, ex _ _ _ rx, rfl⟩
  · simp only [beq_iff_eq] at h1
    obtain ⟨e1, e2⟩ := Res.quiet0 h1 rx
    subst e1
    exact ⟨⟨updO σ.env y.dst v, Ly⟩, ⟨gy, dy, v, _, ey _ _ _ ry, rfl⟩, gx, dx, u, _, ex _ _ _ (e2 Ly), rfl⟩

/-! ### All orders -/

def aAny (c : Ctx) (ops : Array Oper) (K : AState → Prop) : Nat → Array Bool → AState → Prop
  | 0, listed, σ => Region.ready .any ops listed = [] ∧ K σ
  | fuel + 1, listed, σ => (Region.ready .any ops listed = [] → K σ) ∧
    ∀ i ∈ Region.ready .any ops listed, ∃ o σ', ops[i]? = some o ∧ StepE c ops o σ σ' ∧ aAny c ops K fuel (listed.setIfInBounds i true) σ'

theorem StepE.wp {o : Oper} {σ' : AState} {i : Nat} (hi : ops[i]? = some o) (h : StepE c ops o σ σ') {Q : Exit → Act → World → Prop} {K : Act → World → Prop}
    (hK : ∀ a w β, Rel c σ' a w β → K a w) {a : Act} {w : World} {β : List PO} (hr : Rel c σ a w β) : wpOp c.P ops Q i K a w := by
  obtain ⟨hg, hd, x, L', hres, rfl⟩ := h
  have hone : AOps c ops [o] σ (fun s => s = ⟨updO σ.env o.dst x, L'⟩) := by
    rcases hres with ⟨h1, rfl, rfl⟩ | ⟨h1, ⟨_, h3⟩ | ⟨_, rfl, g, args, h4, h5, h6⟩⟩
    · exact AOps.skip h1 hg hd (AOps.nil rfl)
    · exact AOps.op h1 hg (aopD_aop h3) hd (AOps.nil rfl)
    · exact AOps.call h1 hg h4 h5 hd h6 fun r L2 hq => by obtain ⟨rfl, rfl⟩ := hq; exact AOps.nil rfl
  have h2 := hone a w β hr
  unfold wpList at h2
  unfold wpOp
  rw [hi]
  simp only
  split
  · rename_i hw
    rw [if_pos hw] at h2
    rcases h2 with h2 | ⟨_, a0, w0, h9, _⟩
    · left
      unfold Oper.wp at h2 ⊢
      revert h2
      cases hrun : (execOp a.eval o).run c.P w with
      | ok n w' =>
        cases n <;> simp only [Oper.upon, wpList] <;> intro h2 <;> first
          | (obtain ⟨_, s, β', rfl, hrel⟩ := h2; exact hK _ _ _ hrel)
          | (refine Calls.mono h2 ?_; intro e w'' he; cases e
             · obtain ⟨_, s, β', rfl, hrel⟩ := he; exact hK _ _ _ hrel
             · obtain ⟨h9, _⟩ := he; cases h9
             · obtain ⟨a0, w0, h9, _⟩ := he; cases h9)
          | (refine Rows.mono h2 ?_; intro v w'' he; obtain ⟨_, s, β', rfl, hrel⟩ := he; exact hK _ _ _ hrel)
          | exact h2.elim
      | halt e w' =>
        cases e <;> simp only [Oper.upon] <;> intro h2 <;> first
          | exact h2.elim
          | (obtain ⟨h9, _⟩ := h2; cases h9)
    · cases h9
  · rename_i hw
    rw [if_neg hw] at h2
    simp only [wpList] at h2
    obtain ⟨_, s, β', rfl, hrel⟩ := h2
    exact hK _ _ _ hrel

theorem aAny_wp {K : AState → Prop} : ∀ (fuel : Nat) (listed : Array Bool) (σ : AState), aAny c ops K fuel listed σ → ∀ a w β, Rel c σ a w β →
    wpAny c.P .any ops (fun e a' w' => e = .normal ∧ ∃ σ' β', K σ' ∧ Rel c σ' a' w' β') fuel listed a w
  | 0, listed, σ, h, a, w, β, hr => ⟨h.1, rfl, σ, β, h.2, hr⟩
  | fuel + 1, listed, σ, h, a, w, β, hr => by
    refine ⟨fun h0 => ⟨rfl, σ, β, h.1 h0, hr⟩, fun i hi => ?_⟩
    obtain ⟨o, σ', h1, h2, h3⟩ := h.2 i hi
    exact StepE.wp h1 h2 (fun a' w' β' hr' => aAny_wp fuel _ σ' h3 a' w' β' hr') hr

/-- The operations that hang on operation k, through others too. -/
def depB (ops : Array Oper) (k : Nat) (D : List Nat) (j : Nat) : Bool := match ops[j]? with
  | some oj => oj.after.any fun e => Region.binds .any e && (e.on == k || D.contains e.on)
  | none => false

def depOf (ops : Array Oper) (k : Nat) : List Nat := (List.range ops.size).foldl (fun D j => if depB ops k D j then j :: D else D) []

theorem not_dep {i j : Nat} {D : List Nat} {listed : Array Bool} (hD : ∀ d ∈ D, depB ops i D d = true ∧ listed.getD d true = false) (hi : i ∈ Region.ready .any ops listed) (hj : j ∈ Region.ready .any ops listed) : j ∉ D := by
  intro hm
  obtain ⟨hjun, oj, hoj, hall⟩ := mem_ready.1 hj
  have h1 := (hD j hm).1
  unfold depB at h1
  rw [hoj] at h1
  obtain ⟨e, he, hb⟩ := Array.any_eq_true'.1 h1
  simp only [Bool.and_eq_true, Bool.or_eq_true, beq_iff_eq, List.contains_iff_mem] at hb
  have h2 := hall e he hb.1
  have h0 : listed.getD e.on true = false := by
    rcases hb.2 with h3 | h3
    · rw [h3]; exact (mem_ready.1 hi).1
    · exact (hD _ h3).2
  rcases Nat.lt_or_ge e.on listed.size with h' | h'
  · simp [h'] at h0 h2; rw [h0] at h2; cases h2
  · simp [Array.getElem?_eq_none h'] at h2

theorem aAny_first {K : AState → Prop} {i : Nat} {oi : Oper} (hi : ops[i]? = some oi) {D : List Nat} : ∀ (fuel : Nat) (listed : Array Bool) (σ σ1 : AState),
    (∀ d ∈ D, depB ops i D d = true ∧ listed.getD d true = false) →
    (∀ j oj, ops[j]? = some oj → j ≠ i → listed.getD j true = false → j ∉ D → acomm ops oi oj = true) →
    i ∈ Region.ready .any ops listed → StepE c ops oi σ σ1 → aAny c ops K fuel (listed.setIfInBounds i true) σ1 → aAny c ops K (fuel + 1) listed σ
  | 0, listed, σ, σ1, hD, hfree, hr, hs, H => by
    refine ⟨fun h => (by rw [h] at hr; cases hr), fun j hj => ?_⟩
    by_cases hji : j = i
    · subst hji; exact ⟨oi, σ1, hi, hs, H⟩
    · have := ready_mono hj hji
      rw [H.1] at this
      cases this
  | fuel + 1, listed, σ, σ1, hD, hfree, hr, hs, H => by
    refine ⟨fun h => (by rw [h] at hr; cases hr), fun j hj => ?_⟩
    by_cases hji : j = i
    · subst hji; exact ⟨oi, σ1, hi, hs, H⟩
    · obtain ⟨oj, σ2, hoj, hs2, H2⟩ := H.2 j (ready_mono hj hji)
      have hjD := not_dep hD hr hj
      obtain ⟨hjun, oj', hoj', hall⟩ := mem_ready.1 hj
      rw [hoj] at hoj'
      obtain rfl := Option.some.inj hoj'
      obtain ⟨σ', g1, g2⟩ := StepE.comm (hfree j oj hoj hji hjun hjD) hs hs2
      refine ⟨oj, σ', hoj, g1, ?_⟩
      have hfree' : ∀ k ok, ops[k]? = some ok → k ≠ i → (listed.setIfInBounds j true).getD k true = false →
          k ∉ D → acomm ops oi ok = true := fun k ok hk hki hun hno => by
        refine hfree k ok hk hki ?_ hno
        by_cases hjk : j = k
        · subst hjk; exact hjun
        · rw [getD_set_ne true hjk] at hun; exact hun
      refine aAny_first hi fuel (listed.setIfInBounds j true) σ' σ2 (fun d hd => ⟨(hD d hd).1, ?_⟩) hfree' (ready_mono hr (Ne.symm hji)) g2 ?_
      · rw [getD_set_ne true (fun he => hjD (by rw [he]; exact hd))]; exact (hD d hd).2
      · rw [Array.setIfInBounds_comm _ _ hji]
        exact H2

/-- Whatever hangs on k is not carried out yet; the others do not mind it. -/
def freeOf (ops : Array Oper) (k : Nat) (listed : Array Bool) (ok : Oper) (D : List Nat) : Bool :=
  (D.all fun d => depB ops k D d && !(listed.getD d true)) &&
  ((List.range ops.size).all fun j => j == k || listed.getD j true || D.contains j || match ops[j]? with
    | some oj => acomm ops ok oj
    | none => true)

/-- The text's order serves: whatever may come first does not mind what is ahead of it. -/
def lexD (ops : Array Oper) : Nat → Nat → Array Bool → Bool
  | 0, _, listed => (Region.ready .any ops listed).isEmpty
  | fuel + 1, k, listed => (Region.ready .any ops listed).contains k &&
      (match ops[k]? with
        | none => false
        | some ok => freeOf ops k listed ok (depOf ops k)) &&
      lexD ops fuel (k + 1) (listed.setIfInBounds k true)

/-- The operations of a list in the text's order, told exactly. -/
def AOpsD (c : Ctx) (ops : Array Oper) (K : AState → Prop) : List Oper → AState → Prop
  | [], σ => K σ
  | o :: rest, σ => ∃ σ', StepE c ops o σ σ' ∧ AOpsD c ops K rest σ'

theorem aAny_lex {K : AState → Prop} : ∀ (l : List Oper) (k : Nat) (listed : Array Bool) (σ : AState), (∀ j, l[j]? = ops[k + j]?) → lexD ops l.length k listed = true → AOpsD c ops K l σ → aAny c ops K l.length listed σ
  | [], k, listed, σ, hl, hB, h => ⟨by simpa [lexD] using hB, h⟩
  | o :: l, k, listed, σ, hl, hB, h => by
    have h0 : ops[k]? = some o := by simpa using (hl 0).symm
    simp only [List.length_cons, lexD, Bool.and_eq_true, h0] at hB
    obtain ⟨⟨hr, hf⟩, hB'⟩ := hB
    obtain ⟨σ', hs, hrest⟩ := h
    unfold freeOf at hf
    rw [Bool.and_eq_true, List.all_eq_true, List.all_eq_true] at hf
    refine aAny_first h0 (D := depOf ops k) l.length listed σ σ' (fun d hd => by have := hf.1 d hd; simpa using this) (fun j oj hj hne hun hno => ?_) (by simpa using hr) hs
      (aAny_lex l (k + 1) _ _ (fun j => by have := hl (j + 1); simpa [Nat.add_assoc, Nat.add_comm 1 j] using this) hB' hrest)
    have h1 := hf.2 j (List.mem_range.2 (Array.getElem?_eq_some_iff.1 hj).1)
    have hno' : (depOf ops k).contains j = false := by simpa using hno
    simpa only [hj, Bool.or_eq_true, beq_iff_eq, hne, false_or, hun, Bool.false_eq_true, hno'] using h1

/-- A region that draws its order. -/
theorem AGo.regionD {id : Nat} {K : AState → Prop} (hm : c.P.follows .mixedOrders = true) (hB : lexD ops ops.size 0 (Array.replicate ops.size false) = true) (h : AOpsD c ops K ops.toList σ)
    (hK : ∀ σ', K σ' → AGo c f k σ' R) : AGo c f (.code (.region id ops true) :: k) σ R := by
  intro b a w β cs h1 h2 hr
  have hlex := aAny_lex (c := c) (K := K) ops.toList 0 (Array.replicate ops.size false) σ (by simp) (by simpa using hB) h
  have hr' : Rel c σ a { w with drawn := w.drawn + 1 } β := hr.drawn rfl rfl rfl rfl
  have hwp := aAny_wp _ _ _ hlex a _ β hr'
  rw [Array.length_toList] at hwp
  obtain ⟨e, a', w', ⟨rfl, σ', β', g1, g2⟩, harr⟩ := wp_region_any (id := id) hm hwp b k cs
  obtain ⟨v, w'', fr, s, r⟩ := hK σ' g1 b a' w' β' cs h1 h2 g2
  exact ⟨v, w'', fr, Steps.trans harr s, r⟩

/-- The operations up to the next call, told exactly. -/
def runD (P : Program) (n : Nat) (ops : Array Oper) : List Oper → AState → Option (AState × List Oper)
  | [], σ => some (σ, [])
  | o :: rest, σ =>
    match awanted ops σ.env o with
    | some true => if okind o = 3 then some (σ, o :: rest) else match aopD P σ o.op with
      | some (x, L') => if dstOk n o.dst && guardOk n ops o then runD P n ops rest ⟨updO σ.env o.dst x, L'⟩ else none
      | none => some (σ, o :: rest)
    | some false => if dstOk n o.dst && guardOk n ops o then runD P n ops rest ⟨updO σ.env o.dst (.tup []), σ.L⟩ else none
    | none => none

theorem AOpsD.to {K : AState → Prop} : ∀ {l : List Oper} {σ : AState}, (match runD c.P c.n ops l σ with | some (σ', l') => AOpsD c ops K l' σ' | none => False) → AOpsD c ops K l σ
  | [], σ, h => by simpa [runD] using h
  | o :: rest, σ, h => by
    unfold runD at h
    cases hw : awanted ops σ.env o with
    | none => rw [hw] at h; exact h.elim
    | some b =>
      rw [hw] at h
      cases b with
      | true =>
        simp only at h
        by_cases hc : okind o = 3
        · rw [if_pos hc] at h; exact h
        · rw [if_neg hc] at h
          cases he : aopD c.P σ o.op with
          | none => rw [he] at h; exact h
          | some p =>
            obtain ⟨x, L'⟩ := p
            rw [he] at h
            simp only at h
            by_cases hd : (dstOk c.n o.dst && guardOk c.n ops o) = true
            · rw [if_pos hd] at h
              simp only [Bool.and_eq_true] at hd
              exact ⟨_, ⟨hd.2, hd.1, x, L', .inr ⟨hw, .inl ⟨hc, he⟩⟩, rfl⟩, AOpsD.to h⟩
            · rw [if_neg hd] at h; exact h.elim
      | false =>
        simp only at h
        by_cases hd : (dstOk c.n o.dst && guardOk c.n ops o) = true
        · rw [if_pos hd] at h
          simp only [Bool.and_eq_true] at hd
          exact ⟨_, ⟨hd.2, hd.1, .tup [], σ.L, .inl ⟨hw, rfl, rfl⟩, rfl⟩, AOpsD.to h⟩
        · rw [if_neg hd] at h; exact h.elim

end Go.Proofs.Ytpneikbihcoaaab.Vm

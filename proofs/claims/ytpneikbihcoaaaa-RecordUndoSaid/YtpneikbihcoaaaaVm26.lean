/- Regions that draw their order and store beside loads: what touches other objects may change places. -/
import Derived.Test.YtpneikbihcoaaaaVm25
namespace Go.Proofs.Ytpneikbihcoaaaa.Vm
set_option linter.unusedVariables false
set_option linter.unusedSimpArgs false

variable {c : Ctx} {f : FuncId} {σ : AState} {R : AV → List AObj → Prop} {k : List Item} {ops : Array Oper}

def isLd (o : Oper) : Bool := match o.op with
  | .load .. => true
  | .fieldAddr .. => true
  | _ => false
def isSt (o : Oper) : Bool := match o.op with
  | .store .. => true
  | _ => false

/-- The object that a load or a store touches. -/
def touch (σ : AState) (o : Oper) : Option Nat := match o.op with
  | .load _ x => match σ.rd x with
    | .addr i .. => some i
    | _ => none
  | .store _ x _ => match σ.rd x with
    | .addr i .. => some i
    | _ => none
  | .fieldAddr _ x _ => match σ.rd x with
    | .addr i .. => some i
    | _ => none
  | _ => none

def touchR (base : Nat) (σ : AState) (o : Oper) : Option Nat := (touch σ o).map (· - base)

def StepF (c : Ctx) (ops : Array Oper) (base : Nat) (fp : Nat → Option Nat) (j : Nat) (o : Oper) (σ σ' : AState) : Prop :=
  StepE c ops o σ σ' ∧ ((isLd o || isSt o) = true → awanted ops σ.env o = some true → touchR base σ o = fp j)

theorem awanted_env {o : Oper} {env env' : Nat → AV} (he : ∀ t ∈ o.looksAt ops, env' t = env t) : awanted ops env' o = awanted ops env o := by
  unfold awanted
  cases hg : o.guard with
  | none => rfl
  | some gw =>
    obtain ⟨j, want⟩ := gw
    simp only
    cases hd : (ops[j]?).bind (·.dst) with
    | none => rfl
    | some d =>
      have : env' d = env d := he d (by simp [Oper.looksAt, hg, hd])
      simp only [this]

theorem rd_env {o : Oper} {env env' : Nat → AV} {L L' : List AObj} (he : ∀ t ∈ o.looksAt ops, env' t = env t) : ∀ y ∈ o.op.operands, (⟨env', L'⟩ : AState).rd y = (⟨env, L⟩ : AState).rd y := fun y hy => by
  cases y with
  | tmp t => exact (he t (by simp only [Oper.looksAt]; exact List.mem_append_left _ (List.mem_filterMap.2 ⟨.tmp t, by simpa using hy, rfl⟩)))
  | const v => rfl
  | global g => rfl
  | func g => rfl

theorem touch_env {o : Oper} {env env' : Nat → AV} {L L' : List AObj} (he : ∀ t ∈ o.looksAt ops, env' t = env t) : touch ⟨env', L'⟩ o = touch ⟨env, L⟩ o := by
  have h := rd_env (L := L) (L' := L') he
  unfold touch
  cases hop : o.op <;> simp only
  case load t x => rw [h x (by rw [hop]; simp [Op.operands])]
  case store t x y => rw [h x (by rw [hop]; simp [Op.operands])]
  case fieldAddr t x i => rw [h x (by rw [hop]; simp [Op.operands])]

theorem ld_set {P : Program} {o : Oper} {env : Nat → AV} {L L' : List AObj} {x : AV} (hk : isLd o = true) (h : aopD P ⟨env, L⟩ o.op = some (x, L')) :
    L' = L ∧ ∀ b obj, touch ⟨env, L⟩ o ≠ some b → aopD P ⟨env, L.set b obj⟩ o.op = some (x, L.set b obj) := by
  have rdL : ∀ (L2 : List AObj) (y : Operand), (⟨env, L2⟩ : AState).rd y = (⟨env, L⟩ : AState).rd y := fun L2 y => by cases y <;> rfl
  unfold isLd at hk
  unfold touch
  cases hop : o.op <;> rw [hop] at hk h <;> simp only at hk <;> try (simp at hk; done)
  case load t y =>
    simp only [aopD, aop, rdL] at h ⊢
    generalize (⟨env, L⟩ : AState).rd y = Y at *
    split at h
    · split at h
      · rename_i hc
        simp only [Option.some.injEq, Prod.mk.injEq] at h
        obtain ⟨rfl, rfl⟩ := h
        exact ⟨rfl, fun b obj _ => by rw [if_pos hc]⟩
      · cases h
    · split at h
      · rename_i obj0 hL
        split at h
        · rename_i hc
          simp only [Option.bind_eq_some_iff] at h
          obtain ⟨e, he, z, hz, h⟩ := h
          split at h
          · rename_i hc2
            simp only [Option.some.injEq, Prod.mk.injEq] at h
            obtain ⟨rfl, rfl⟩ := h
            refine ⟨rfl, fun b obj hne => ?_⟩
            have hne' : b ≠ _ := fun hh => hne (by rw [hh])
            simp only [List.getElem?_set_ne hne', hL]
            rw [if_pos hc]
            simp only [he, Option.bind_some, hz]
            rw [if_pos hc2]
          · cases h
        · cases h
      · cases h
    · cases h
  case fieldAddr t y i =>
    simp only [aopD, aop, rdL] at h ⊢
    generalize (⟨env, L⟩ : AState).rd y = Y at *
    split at h
    · simp only [Option.bind_eq_some_iff] at h
      obtain ⟨fd, hfd, z, hz, h⟩ := h
      split at h
      · rename_i hc
        simp only [Option.some.injEq, Prod.mk.injEq] at h
        obtain ⟨rfl, rfl⟩ := h
        exact ⟨rfl, fun b obj _ => by simp only [hfd, Option.bind_some, hz]; rw [if_pos hc]⟩
      · cases h
    · simp only [Option.bind_eq_some_iff] at h
      obtain ⟨fd, hfd, obj0, hL, h⟩ := h
      split at h
      · rename_i hc
        simp only [Option.some.injEq, Prod.mk.injEq] at h
        obtain ⟨rfl, rfl⟩ := h
        refine ⟨rfl, fun b obj hne => ?_⟩
        have hne' : b ≠ _ := fun hh => hne (by rw [hh])
        simp only [hfd, Option.bind_some, List.getElem?_set_ne hne', hL]
        rw [if_pos hc]
      · cases h
    · cases h

theorem st_set {P : Program} {o : Oper} {env : Nat → AV} {L L' : List AObj} {x : AV} (hk : isSt o = true) (h : aopD P ⟨env, L⟩ o.op = some (x, L')) :
    ∃ b obj, touch ⟨env, L⟩ o = some b ∧ L' = L.set b obj := by
  unfold isSt at hk
  unfold touch
  cases hop : o.op <;> rw [hop] at hk h <;> simp only at hk <;> try (simp at hk; done)
  rename_i t y v
  simp only [aopD, aop] at h ⊢
  split at h
  · rename_i hY
    split at h
    · split at h
      · simp only [Option.bind_eq_some_iff] at h
        obtain ⟨e, he, z, hz, h⟩ := h
        split at h
        · simp only [Option.map_eq_some_iff, Prod.mk.injEq] at h
          obtain ⟨x', _, _, h2⟩ := h
          exact ⟨_, _, by rw [hY], h2.symm⟩
        · cases h
      · cases h
    · cases h
  · cases h

theorem ls_kind {o : Oper} (h : isLd o = true) : okind o = 1 := by
  unfold isLd at h
  unfold okind
  cases hop : o.op <;> rw [hop] at h <;> simp_all
theorem st_kind {o : Oper} (h : isSt o = true) : okind o = 4 := by
  unfold isSt at h
  unfold okind
  cases hop : o.op <;> rw [hop] at h <;> simp_all

def acommF (ops : Array Oper) (fp : Nat → Option Nat) (i : Nat) (x : Oper) (j : Nat) (y : Oper) : Bool :=
  acomm ops x y || (x.apart ops y && isLd x && isSt y && fp i != fp j)

theorem acomm_apart {x y : Oper} (h : acomm ops x y = true) : x.apart ops y = true := by
  unfold acomm at h
  rw [Bool.and_eq_true] at h
  exact h.1

theorem StepF.comm {base i j : Nat} {fp : Nat → Option Nat} {x y : Oper} {σ σ1 σ2 : AState} (hc : acommF ops fp i x j y = true) (hx : StepF c ops base fp i x σ σ1) (hy : StepF c ops base fp j y σ1 σ2) :
    ∃ σ', StepF c ops base fp j y σ σ' ∧ StepF c ops base fp i x σ' σ2 := by
  obtain ⟨hx, tx⟩ := hx
  obtain ⟨hy, ty⟩ := hy
  have hap : x.apart ops y = true := by
    unfold acommF at hc
    simp only [Bool.or_eq_true, Bool.and_eq_true] at hc
    rcases hc with h | h
    · exact acomm_apart h
    · exact h.1.1.1
  obtain ⟨a1, a2, a3⟩ := Oper.apart_spec hap
  have fin : ∀ σ', StepE c ops y σ σ' → StepE c ops x σ' σ2 → ∃ σ', StepF c ops base fp j y σ σ' ∧ StepF c ops base fp i x σ' σ2 := fun σ' h1 h2 => by
    refine ⟨σ', ⟨h1, fun hk hw => ?_⟩, h2, fun hk hw => ?_⟩
    · obtain ⟨_, _, u, Lx, _, rfl⟩ := hx
      have he : ∀ t ∈ y.looksAt ops, σ.env t = (updO σ.env x.dst u) t := fun t ht => (updO_of_ne fun q hq e => a1 q hq (e ▸ ht)).symm
      have := ty hk (by rw [awanted_env (ops := ops) he] at hw; exact hw)
      unfold touchR at this ⊢
      rw [← this]
      exact congrArg _ (touch_env (L := Lx) (L' := σ.L) he)
    · obtain ⟨_, _, v, Ly, _, rfl⟩ := h1
      have he : ∀ t ∈ x.looksAt ops, σ.env t = (updO σ.env y.dst v) t := fun t ht => (updO_of_ne fun q hq e => a3 q hq (e ▸ ht)).symm
      have := tx hk (by rw [awanted_env (ops := ops) he]; exact hw)
      unfold touchR at this ⊢
      rw [← this]
      exact (congrArg _ (touch_env (L := Ly) (L' := σ.L) he)).symm
  unfold acommF at hc
  rw [Bool.or_eq_true] at hc
  rcases hc with hc | hc
  · obtain ⟨σ', h1, h2⟩ := StepE.comm hc hx hy
    exact fin σ' h1 h2
  · simp only [Bool.and_eq_true] at hc
    obtain ⟨⟨⟨_, kx⟩, ky⟩, hne⟩ := hc
    have hx0 := hx
    have hy0 := hy
    obtain ⟨gx, dx, u, Lx, rx, rfl⟩ := hx
    obtain ⟨gy, dy, v, Ly, ry, rfl⟩ := hy
    have eyl : ∀ t ∈ y.looksAt ops, σ.env t = (updO σ.env x.dst u) t := fun t ht => (updO_of_ne fun q hq e => a1 q hq (e ▸ ht)).symm
    have ey : ∀ (M M' : List AObj) (z : AV), Res c ops y (updO σ.env x.dst u) M z M' → Res c ops y σ.env M z M' := fun M M' z h => h.env eyl
    have ex : ∀ (M M' : List AObj) (z : AV), Res c ops x σ.env M z M' → Res c ops x (updO σ.env y.dst v) M z M' := fun M M' z h => h.env fun t ht => updO_of_ne fun q hq e => a3 q hq (e ▸ ht)
    have hcomm : updO (updO σ.env x.dst u) y.dst v = updO (updO σ.env y.dst v) x.dst u := updO_comm a2
    have hx1 := Res.quiet1 (ls_kind kx) rx
    obtain ⟨rfl, _⟩ := hx1
    have kxn : okind x ≠ 3 := by rw [ls_kind kx]; decide
    have kyn : okind y ≠ 3 := by rw [st_kind ky]; decide
    have ry' := ey _ _ _ ry
    have key : Res c ops x σ.env Ly u Ly := by
      rcases rx with ⟨h1, h2, h3⟩ | ⟨h1, ⟨h2, h3⟩ | ⟨h2, _⟩⟩
      · exact .inl ⟨h1, h2, rfl⟩
      · rcases ry' with ⟨g1, g2, rfl⟩ | ⟨g1, ⟨g2, g3⟩ | ⟨g2, _⟩⟩
        · exact .inr ⟨h1, .inl ⟨h2, h3⟩⟩
        · obtain ⟨b, obj, hb, rfl⟩ := st_set ky g3
          refine .inr ⟨h1, .inl ⟨h2, (ld_set kx h3).2 b obj fun hh => ?_⟩⟩
          have e1 := tx (by rw [kx]; rfl) h1
          have e2 := ty (by rw [ky]; simp) (by rw [← awanted_env (ops := ops) eyl]; exact g1)
          have e3 : touch ⟨updO σ.env x.dst u, σ.L⟩ y = some b := by rw [← hb]; exact (touch_env (L := σ.L) (L' := σ.L) eyl).symm
          unfold touchR at e1 e2
          rw [hh] at e1
          rw [e3] at e2
          rw [← e1, ← e2] at hne
          simp at hne
        · exact absurd g2 kyn
      · exact absurd h2 kxn
    refine fin ⟨updO σ.env y.dst v, Ly⟩ ⟨gy, dy, v, Ly, ry', rfl⟩ ⟨gx, dx, u, Ly, ex _ _ _ key, ?_⟩
    rw [hcomm]

def aAnyF (c : Ctx) (ops : Array Oper) (base : Nat) (fp : Nat → Option Nat) (K : AState → Prop) : Nat → Array Bool → AState → Prop
  | 0, listed, σ => Region.ready .any ops listed = [] ∧ K σ
  | fuel + 1, listed, σ => (Region.ready .any ops listed = [] → K σ) ∧
    ∀ i ∈ Region.ready .any ops listed, ∃ o σ', ops[i]? = some o ∧ StepF c ops base fp i o σ σ' ∧ aAnyF c ops base fp K fuel (listed.setIfInBounds i true) σ'

theorem aAnyF.plain {base : Nat} {fp : Nat → Option Nat} {K : AState → Prop} : ∀ (fuel : Nat) (listed : Array Bool) (σ : AState), aAnyF c ops base fp K fuel listed σ → aAny c ops K fuel listed σ
  | 0, _, _, h => h
  | fuel + 1, listed, σ, h => ⟨h.1, fun i hi => by
    obtain ⟨o, σ', h1, h2, h3⟩ := h.2 i hi
    exact ⟨o, σ', h1, h2.1, aAnyF.plain fuel _ σ' h3⟩⟩

theorem aAnyF_first {base : Nat} {fp : Nat → Option Nat} {K : AState → Prop} {i : Nat} {oi : Oper} (hi : ops[i]? = some oi) {D : List Nat} : ∀ (fuel : Nat) (listed : Array Bool) (σ σ1 : AState),
    (∀ d ∈ D, depB ops i D d = true ∧ listed.getD d true = false) →
    (∀ j oj, ops[j]? = some oj → j ≠ i → listed.getD j true = false → j ∉ D → acommF ops fp i oi j oj = true) →
    i ∈ Region.ready .any ops listed → StepF c ops base fp i oi σ σ1 → aAnyF c ops base fp K fuel (listed.setIfInBounds i true) σ1 → aAnyF c ops base fp K (fuel + 1) listed σ
  | 0, listed, σ, σ1, hD, hfree, hr, hs, H => by
    refine ⟨fun h => (by rw [h] at hr; cases hr), fun j hj => ?_⟩
    by_cases hji : j = i
    · subst hji; exact ⟨oi, σ1, hi, hs, H⟩
    · have := ready_mono hj hji
      rw [H.1] at this
      cases this
  | fuel + 1, listed, σ, σ1, hD, hfree, hr, hs, H => by
    refine ⟨fun h => (by rw [h] at hr; cases hr), fun j hj => ?_⟩
    by_cases hji : j = i
    · subst hji; exact ⟨oi, σ1, hi, hs, H⟩
    · obtain ⟨oj, σ2, hoj, hs2, H2⟩ := H.2 j (ready_mono hj hji)
      have hjD := not_dep hD hr hj
      obtain ⟨hjun, oj', hoj', hall⟩ := mem_ready.1 hj
      rw [hoj] at hoj'
      obtain rfl := Option.some.inj hoj'
      obtain ⟨σ', g1, g2⟩ := StepF.comm (hfree j oj hoj hji hjun hjD) hs hs2
      refine ⟨oj, σ', hoj, g1, ?_⟩
      have hfree' : ∀ k ok, ops[k]? = some ok → k ≠ i → (listed.setIfInBounds j true).getD k true = false →
          k ∉ D → acommF ops fp i oi k ok = true := fun k ok hk hki hun hno => by
        refine hfree k ok hk hki ?_ hno
        by_cases hjk : j = k
        · subst hjk; exact hjun
        · rw [getD_set_ne true hjk] at hun; exact hun
      refine aAnyF_first hi fuel (listed.setIfInBounds j true) σ' σ2 (fun d hd => ⟨(hD d hd).1, ?_⟩) hfree' (ready_mono hr (Ne.symm hji)) g2 ?_
      · rw [getD_set_ne true (fun he => hjD (by rw [he]; exact hd))]; exact (hD d hd).2
      · rw [Array.setIfInBounds_comm _ _ hji]
        exact H2

def freeOfF (ops : Array Oper) (fp : Nat → Option Nat) (k : Nat) (listed : Array Bool) (ok : Oper) (D : List Nat) : Bool :=
  (D.all fun d => depB ops k D d && !(listed.getD d true)) &&
  ((List.range ops.size).all fun j => j == k || listed.getD j true || D.contains j || match ops[j]? with
    | some oj => acommF ops fp k ok j oj
    | none => true)

def lexF (ops : Array Oper) (fp : Nat → Option Nat) : Nat → Nat → Array Bool → Bool
  | 0, _, listed => (Region.ready .any ops listed).isEmpty
  | fuel + 1, k, listed => (Region.ready .any ops listed).contains k &&
      (match ops[k]? with
        | none => false
        | some ok => freeOfF ops fp k listed ok (depOf ops k)) &&
      lexF ops fp fuel (k + 1) (listed.setIfInBounds k true)

def AOpsF (c : Ctx) (ops : Array Oper) (base : Nat) (fp : Nat → Option Nat) (K : AState → Prop) : Nat → List Oper → AState → Prop
  | _, [], σ => K σ
  | j, o :: rest, σ => ∃ σ', StepF c ops base fp j o σ σ' ∧ AOpsF c ops base fp K (j + 1) rest σ'

theorem aAnyF_lex {base : Nat} {fp : Nat → Option Nat} {K : AState → Prop} : ∀ (l : List Oper) (k : Nat) (listed : Array Bool) (σ : AState), (∀ j, l[j]? = ops[k + j]?) → lexF ops fp l.length k listed = true →
    AOpsF c ops base fp K k l σ → aAnyF c ops base fp K l.length listed σ
  | [], k, listed, σ, hl, hB, h => ⟨by simpa [lexF] using hB, h⟩
  | o :: l, k, listed, σ, hl, hB, h => by
    have h0 : ops[k]? = some o := by simpa using (hl 0).symm
    simp only [List.length_cons, lexF, Bool.and_eq_true, h0] at hB
    obtain ⟨⟨hr, hf⟩, hB'⟩ := hB
    obtain ⟨σ', hs, hrest⟩ := h
    unfold freeOfF at hf
    rw [Bool.and_eq_true, List.all_eq_true, List.all_eq_true] at hf
    refine aAnyF_first h0 (D := depOf ops k) l.length listed σ σ' (fun d hd => by have := hf.1 d hd; simpa using this) (fun j oj hj hne hun hno => ?_) (by simpa using hr) hs
      (aAnyF_lex l (k + 1) _ _ (fun j => by have := hl (j + 1); simpa [Nat.add_assoc, Nat.add_comm 1 j] using this) hB' hrest)
    have h1 := hf.2 j (List.mem_range.2 (Array.getElem?_eq_some_iff.1 hj).1)
    have hno' : (depOf ops k).contains j = false := by simpa using hno
    simpa only [hj, Bool.or_eq_true, beq_iff_eq, hne, false_or, hun, Bool.false_eq_true, hno'] using h1

/-- The operations of a list, with what they touch. -/
def runF (P : Program) (n : Nat) (ops : Array Oper) (base : Nat) (fp : Nat → Option Nat) : Nat → List Oper → AState → Option AState
  | _, [], σ => some σ
  | j, o :: rest, σ =>
    match awanted ops σ.env o with
    | some true => if okind o = 3 then none else match aopD P σ o.op with
      | some (x, L') => if dstOk n o.dst && guardOk n ops o && (!(isLd o || isSt o) || touchR base σ o == fp j) then runF P n ops base fp (j + 1) rest ⟨updO σ.env o.dst x, L'⟩ else none
      | none => none
    | some false => if dstOk n o.dst && guardOk n ops o then runF P n ops base fp (j + 1) rest ⟨updO σ.env o.dst (.tup []), σ.L⟩ else none
    | none => none

theorem AOpsF.to {base : Nat} {fp : Nat → Option Nat} {σ1 : AState} : ∀ {l : List Oper} {j : Nat} {σ : AState}, runF c.P c.n ops base fp j l σ = some σ1 → AOpsF c ops base fp (fun s => s = σ1) j l σ
  | [], j, σ, h => by simpa [runF, AOpsF] using h
  | o :: rest, j, σ, h => by
    unfold runF at h
    cases hw : awanted ops σ.env o with
    | none => rw [hw] at h; cases h
    | some b =>
      rw [hw] at h
      cases b with
      | true =>
        simp only at h
        by_cases hc : okind o = 3
        · rw [if_pos hc] at h; cases h
        · rw [if_neg hc] at h
          cases he : aopD c.P σ o.op with
          | none => rw [he] at h; cases h
          | some p =>
            obtain ⟨x, L'⟩ := p
            rw [he] at h
            simp only at h
            split at h
            · rename_i hd
              simp only [Bool.and_eq_true, Bool.or_eq_true, Bool.not_eq_true', beq_iff_eq] at hd
              refine ⟨_, ⟨⟨hd.1.2, hd.1.1, x, L', .inr ⟨hw, .inl ⟨hc, he⟩⟩, rfl⟩, fun hk _ => ?_⟩, AOpsF.to h⟩
              rcases hd.2 with h1 | h1
              · rw [Bool.or_eq_true] at hk; rw [Bool.or_eq_false_iff] at h1; simp_all
              · exact h1
            · cases h
      | false =>
        simp only at h
        split at h
        · rename_i hd
          simp only [Bool.and_eq_true] at hd
          exact ⟨_, ⟨⟨hd.2, hd.1, .tup [], σ.L, .inl ⟨hw, rfl, rfl⟩, rfl⟩, fun _ hw' => by rw [hw] at hw'; cases hw'⟩, AOpsF.to h⟩
        · cases h

/-- What each operation of a region touches: a row of its place and the object's. -/
def fpl (l : List (Nat × Nat)) (j : Nat) : Option Nat := (l.find? fun p => p.1 == j).map (·.2)

/-- A region that draws its order and stores. -/
theorem AGo.regionF {P : Program} {n id : Nat} {σ1 : AState} (hP : c.P = P) (hn : c.n = n) (base : Nat) (fp : List (Nat × Nat)) (hm : P.follows .mixedOrders = true) (hB : lexF ops (fpl fp) ops.size 0 (Array.replicate ops.size false) = true)
    (h : runF P n ops base (fpl fp) 0 ops.toList σ = some σ1) (hK : AGo c f k σ1 R) : AGo c f (.code (.region id ops true) :: k) σ R := by
  subst hP hn
  intro b a w β cs h1 h2 hr
  have hlex := (aAnyF_lex (c := c) ops.toList 0 (Array.replicate ops.size false) σ (by simp) (by simpa using hB) (AOpsF.to h)).plain
  have hr' : Rel c σ a { w with drawn := w.drawn + 1 } β := hr.drawn rfl rfl rfl rfl
  have hwp := aAny_wp _ _ _ hlex a _ β hr'
  rw [Array.length_toList] at hwp
  obtain ⟨e, a', w', ⟨rfl, σ', β', rfl, g2⟩, harr⟩ := wp_region_any (id := id) hm hwp b k cs
  obtain ⟨v, w'', fr, s, r⟩ := hK b a' w' β' cs h1 h2 g2
  exact ⟨v, w'', fr, Steps.trans harr s, r⟩

end Go.Proofs.Ytpneikbihcoaaaa.Vm

/- Regions that draw their order: where what they do does not hang on it. -/
import Derived.Test.YtpneikbihcoaaabVm17
namespace Go.Proofs.Ytpneikbihcoaaab.Vm
set_option linter.unusedVariables false
set_option linter.unusedSimpArgs false

variable {c : Ctx} {f : FuncId} {σ : AState} {R : AV → List AObj → Prop} {k : List Item}

/-- As `aop`, but that no object is made for a slice that is nil. -/
def aopD (P : Program) (σ : AState) (op : Op) : Option (AV × List AObj) :=
  match op with
  | .assign x => match σ.rd x with
    | .nilS => none
    | y => some (y, σ.L)
  | .convert s d x => match tk P s, tk P d, σ.rd x with
    | some _, some (.int k, _), .int _ n => some (.int k (k.wrap n), σ.L)
    | _, _, _ => none
  | op => aop P σ op

theorem aopD_aop {P : Program} {σ : AState} {op : Op} {r : AV × List AObj} (h : aopD P σ op = some r) : aop P σ op = some r := by
  unfold aopD at h
  split at h
  · rename_i x
    split at h
    · cases h
    · rename_i hne
      simp only [aop]
      exact h
  · rename_i s d x
    split at h
    · rename_i k n hs hd hx
      simp only [aop, hs, hd, hx]
      exact h
    · cases h
  · exact h

/-- 0: reckons alone. 1: reads objects. 2: makes one. 3: calls. 4: any other. -/
def okind (o : Oper) : Nat :=
  match o.op with
  | .move _ | .assign _ | .convert .. | .pick .. | .build .. | .binOp .. | .unOp .. | .makeFunc .. | .field .. | .index .. | .extract .. => 0
  | .call { callee := .builtin .max, .. } | .call { callee := .builtin .min, .. } => 0
  | .load .. | .nilCheck _ | .slice .. | .fieldAddr .. | .indexAddr .. => 1
  | .call { callee := .builtin .len, .. } => 1
  | .alloc _ | .box .. | .buildSlice .. | .makeSlice .. => 2
  | .call { callee := .value _, .. } => 3
  | _ => 4

theorem aopD_congr {P : Program} {op : Op} {σ σ' : AState} (h : ∀ x ∈ op.operands, σ.rd x = σ'.rd x) (hL : σ.L = σ'.L) : aopD P σ op = aopD P σ' op := by
  have parts : ∀ ps : Array (Nat × Operand), (∀ x ∈ (ps.toList.map (·.2)).toArray, σ.rd x = σ'.rd x) → (ps.toList.map fun (i, x) => (i, σ.rd x)) = (ps.toList.map fun (i, x) => (i, σ'.rd x)) := fun ps hp =>
    List.map_congr_left fun p hm => by
      obtain ⟨i, x⟩ := p
      simp only [hp x (by simp; exact ⟨i, by simpa using hm⟩)]
  have elems : ∀ y : AV, σ.elems y = σ'.elems y := fun y => by
    cases y <;> simp only [AState.elems, hL]
  have more : ∀ y : AV, σ.more y = σ'.more y := fun y => by
    cases y <;> simp only [AState.more, elems]
  cases op <;> simp only [Op.operands] at h <;> simp only [aopD, aop, hL]
  case build t ps => rw [parts ps h]
  case buildSlice t n ps => rw [parts ps h]
  case makeFunc fn first caps =>
    have h2 : ∀ x ∈ caps.toList, σ.rd x = σ'.rd x := fun x hx => h x (by simp; right; simpa using hx)
    cases fn <;> simp only [aop]
    rename_i g
    have e1 : caps.toList.all (fun x => (σ.rd x).one) = caps.toList.all (fun x => (σ'.rd x).one) := by
      rw [Bool.eq_iff_iff, List.all_eq_true, List.all_eq_true]
      constructor
      · intro hh x hx; rw [← h2 x hx]; exact hh x hx
      · intro hh x hx; rw [h2 x hx]; exact hh x hx
    have e2 : caps.toList.map σ.rd = caps.toList.map σ'.rd := List.map_congr_left h2
    rw [e1, e2]
  case slice t x lo hi mx =>
    have hx : σ.rd x = σ'.rd x := h x (by simp)
    have hlo : lo.map σ.rd = lo.map σ'.rd := by cases lo <;> simp_all
    have hhi : hi.map σ.rd = hi.map σ'.rd := by cases hi <;> simp_all
    rw [hx, hlo, hhi]
  case call cl =>
    obtain ⟨callee, args, argTypes⟩ := cl
    cases callee
    case value g => rfl
    case invoke r m => rfl
    rename_i b
    simp only [Call.operands] at h
    have h2 : ∀ x ∈ args.toList, σ.rd x = σ'.rd x := fun x hx => h x (by simpa using hx)
    have e2 : args.toList.map σ.rd = args.toList.map σ'.rd := List.map_congr_left h2
    have g0 : ∀ (i : Nat) x, args[i]? = some x → σ.rd x = σ'.rd x := fun i x hx => h2 x (by simpa using Array.mem_of_getElem? hx)
    cases b <;> simp only [aop]
    case max => rw [e2]
    case min => rw [e2]
    case len =>
      cases ht : argTypes[0]? with
      | none => rfl
      | some t =>
        cases hx : args[0]? with
        | none => rfl
        | some x => simp only [g0 0 x hx, hL]
    case append =>
      cases argTypes.toList with
      | nil => rfl
      | cons t ts => cases ts with
        | nil => rfl
        | cons u us => cases us with
          | cons _ _ => rfl
          | nil =>
            cases ha : args.toList with
            | nil => rfl
            | cons x xs => cases xs with
              | nil => rfl
              | cons y ys => cases ys with
                | cons _ _ => rfl
                | nil =>
                  have hx := h2 x (by rw [ha]; simp)
                  have hy := h2 y (by rw [ha]; simp)
                  simp only [hx, hy, more, hL]
  all_goals (simp_all; done)

/-- What reckons alone does not look at the objects. -/
theorem aopD_pure {P : Program} {o : Oper} {env : Nat → AV} {L L' : List AObj} {x : AV} (hk : okind o = 0) (h : aopD P ⟨env, L⟩ o.op = some (x, L')) : L' = L ∧ ∀ L2, aopD P ⟨env, L2⟩ o.op = some (x, L2) := by
  have rdL : ∀ (L2 : List AObj) (y : Operand), (⟨env, L2⟩ : AState).rd y = (⟨env, L⟩ : AState).rd y := fun L2 y => by cases y <;> rfl
  unfold okind at hk
  cases hop : o.op <;> rw [hop] at hk h <;> simp only at hk <;> try (simp at hk; done)
  all_goals simp only [aopD, aop, rdL] at h ⊢
  case move y => simp only [Option.some.injEq, Prod.mk.injEq] at h; obtain ⟨rfl, rfl⟩ := h; exact ⟨rfl, fun _ => rfl⟩
  case assign y =>
    split at h
    · cases h
    · rename_i hne
      simp only [Option.some.injEq, Prod.mk.injEq] at h; obtain ⟨rfl, rfl⟩ := h; exact ⟨rfl, fun _ => rfl⟩
  case convert s d y =>
    split at h
    · simp only [Option.some.injEq, Prod.mk.injEq] at h; obtain ⟨rfl, rfl⟩ := h; exact ⟨rfl, fun _ => rfl⟩
    · cases h
  case pick z y1 y2 =>
    split at h
    · simp only [Option.some.injEq, Prod.mk.injEq] at h; obtain ⟨rfl, rfl⟩ := h; exact ⟨rfl, fun _ => rfl⟩
    · cases h
  case build t ps =>
    split at h
    · split at h
      · cases h
      · simp only [Option.map_eq_some_iff, Prod.mk.injEq] at h
        rename_i hc
        obtain ⟨ys, hf, rfl, rfl⟩ := h
        refine ⟨rfl, fun L2 => ?_⟩
        rw [if_neg hc, hf]
        rfl
    · split at h
      · cases h
      · simp only [Option.map_eq_some_iff, Prod.mk.injEq] at h
        rename_i hc
        obtain ⟨ys, hf, rfl, rfl⟩ := h
        refine ⟨rfl, fun L2 => ?_⟩
        rw [if_neg hc, hf]
        rfl
    · cases h
  case binOp op t y1 y2 u =>
    simp only [Option.map_eq_some_iff, Prod.mk.injEq] at h
    obtain ⟨z, hz, rfl, rfl⟩ := h
    exact ⟨rfl, fun _ => by simp [hz]⟩
  case unOp op t y =>
    simp only [Option.map_eq_some_iff, Prod.mk.injEq] at h
    obtain ⟨z, hz, rfl, rfl⟩ := h
    exact ⟨rfl, fun _ => by simp [hz]⟩
  case makeFunc fn first caps =>
    cases fn <;> simp only [aop] at h ⊢ <;> try (cases h; done)
    split at h
    · rename_i hc
      simp only [Option.some.injEq, Prod.mk.injEq] at h
      obtain ⟨rfl, rfl⟩ := h
      refine ⟨rfl, fun L2 => ?_⟩
      have e0 : (⟨env, L2⟩ : AState).rd = (⟨env, L⟩ : AState).rd := funext (rdL L2)
      rw [e0]
      exact if_pos hc
    · cases h
  case field t y fi =>
    split at h
    · simp only [Option.bind_eq_some_iff] at h
      obtain ⟨fd, hfd, z, hz, h⟩ := h
      split at h
      · rename_i hc
        simp only [Option.some.injEq, Prod.mk.injEq] at h
        obtain ⟨rfl, rfl⟩ := h
        exact ⟨rfl, fun _ => by simp [hfd, hz, hc]⟩
      · cases h
    · cases h
  case index t y ix =>
    split at h
    · split at h
      · rename_i hc
        simp only [Option.bind_eq_some_iff] at h
        obtain ⟨z, hz, h⟩ := h
        split at h
        · rename_i hs
          simp only [Option.some.injEq, Prod.mk.injEq] at h
          obtain ⟨rfl, rfl⟩ := h
          refine ⟨rfl, fun _ => ?_⟩
          rw [if_pos hc]
          simp [hz, hs]
        · cases h
      · cases h
    · split at h
      · rename_i hc
        simp only [Option.map_eq_some_iff, Prod.mk.injEq] at h
        obtain ⟨b, hb, rfl, rfl⟩ := h
        exact ⟨rfl, fun _ => by rw [if_pos hc]; simp [hb]⟩
      · cases h
    · cases h
  case extract y i =>
    split at h
    · simp only [Option.map_eq_some_iff, Prod.mk.injEq] at h
      obtain ⟨z, hz, rfl, rfl⟩ := h
      exact ⟨rfl, fun _ => by simp [hz]⟩
    · cases h
  case call cl =>
    obtain ⟨callee, args, argTypes⟩ := cl
    cases callee
    case value g => simp at hk
    case invoke r m => simp at hk
    rename_i b
    have e2 : ∀ L2 : List AObj, args.toList.map (⟨env, L2⟩ : AState).rd = args.toList.map (⟨env, L⟩ : AState).rd := fun L2 => List.map_congr_left fun y _ => rdL L2 y
    cases b <;> simp only at hk <;> try (simp at hk; done)
    case max =>
      simp only [aop, Option.map_eq_some_iff, Prod.mk.injEq] at h ⊢
      obtain ⟨z, hz, rfl, rfl⟩ := h
      exact ⟨rfl, fun L2 => ⟨z, by rw [e2 L2]; exact hz, rfl, trivial⟩⟩
    case min =>
      simp only [aop, Option.map_eq_some_iff, Prod.mk.injEq] at h ⊢
      obtain ⟨z, hz, rfl, rfl⟩ := h
      exact ⟨rfl, fun L2 => ⟨z, by rw [e2 L2]; exact hz, rfl, trivial⟩⟩

theorem rd_L (env : Nat → AV) (L L2 : List AObj) : (⟨env, L2⟩ : AState).rd = (⟨env, L⟩ : AState).rd := funext fun y => by cases y <;> rfl

theorem get_grow {L M : List AObj} {o : Nat} {obj : AObj} (h : L[o]? = some obj) : (L ++ M)[o]? = some obj := by
  rw [List.getElem?_append_left (List.getElem?_eq_some_iff.1 h).1]; exact h

/-- What reads keeps the objects, and reads the same where there are more. -/
theorem aopD_read {P : Program} {o : Oper} {env : Nat → AV} {L L' : List AObj} {x : AV} (hk : okind o = 1) (h : aopD P ⟨env, L⟩ o.op = some (x, L')) : L' = L ∧ ∀ M, aopD P ⟨env, L ++ M⟩ o.op = some (x, L ++ M) := by
  unfold okind at hk
  cases hop : o.op <;> rw [hop] at hk h <;> simp only at hk <;> try (simp at hk; done)
  all_goals simp only [aopD, aop] at h ⊢
  case load t y =>
    simp only [rd_L env L]
    split at h
    · split at h
      · rename_i hc
        simp only [Option.some.injEq, Prod.mk.injEq] at h
        obtain ⟨rfl, rfl⟩ := h
        exact ⟨rfl, fun _ => by rw [if_pos hc]⟩
      · cases h
    · split at h
      · rename_i obj hL
        split at h
        · rename_i hc
          simp only [Option.bind_eq_some_iff] at h
          obtain ⟨e, he, z, hz, h⟩ := h
          split at h
          · rename_i hc2
            simp only [Option.some.injEq, Prod.mk.injEq] at h
            obtain ⟨rfl, rfl⟩ := h
            refine ⟨rfl, fun M => ?_⟩
            simp only [get_grow hL]
            rw [if_pos hc]
            simp only [he, Option.bind_some, hz]
            rw [if_pos hc2]
          · cases h
        · cases h
      · cases h
    · cases h
  case nilCheck y =>
    simp only [rd_L env L]
    split at h
    · simp only [Option.some.injEq, Prod.mk.injEq] at h
      obtain ⟨rfl, rfl⟩ := h
      exact ⟨rfl, fun _ => rfl⟩
    · simp only [Option.bind_eq_some_iff] at h
      obtain ⟨obj, hL, h⟩ := h
      split at h
      · rename_i hc
        simp only [Option.some.injEq, Prod.mk.injEq] at h
        obtain ⟨rfl, rfl⟩ := h
        refine ⟨rfl, fun M => ?_⟩
        simp only [get_grow hL, Option.bind_some]
        rw [if_pos hc]
      · cases h
    · simp only [Option.some.injEq, Prod.mk.injEq] at h
      obtain ⟨rfl, rfl⟩ := h
      exact ⟨rfl, fun _ => rfl⟩
    · cases h
  case slice t y lo hi mx =>
    simp only [rd_L env L]
    split at h
    · cases h
    · rename_i hmx
      simp only [hmx, Bool.false_eq_true, if_false]
      split at h
      · simp only [Option.bind_eq_some_iff, Option.map_eq_some_iff, Prod.mk.injEq] at h
        obtain ⟨r, hr, l, hl, rfl, rfl⟩ := h
        exact ⟨rfl, fun _ => by simp only [hr, Option.bind_some, hl, Option.map_some]⟩
      · simp only [Option.bind_eq_some_iff] at h
        obtain ⟨r, hr, l, hl, h⟩ := h
        split at h
        · rename_i hc
          simp only [Option.some.injEq, Prod.mk.injEq] at h
          obtain ⟨rfl, rfl⟩ := h
          exact ⟨rfl, fun _ => by simp only [hr, Option.bind_some, hl]; rw [if_pos hc]⟩
        · cases h
      · split at h
        · rename_i obj hL
          split at h
          · rename_i hc
            simp only [Option.bind_eq_some_iff, Option.map_eq_some_iff, Prod.mk.injEq] at h
            obtain ⟨r, hr, l, hl, rfl, rfl⟩ := h
            refine ⟨rfl, fun M => ?_⟩
            simp only [get_grow hL]
            rw [if_pos hc]
            simp only [hr, Option.bind_some, hl, Option.map_some]
          · cases h
        · cases h
      · cases h
  case fieldAddr t y fi =>
    simp only [rd_L env L]
    split at h
    · simp only [Option.bind_eq_some_iff] at h
      obtain ⟨fd, hfd, z, hz, h⟩ := h
      split at h
      · rename_i hc
        simp only [Option.some.injEq, Prod.mk.injEq] at h
        obtain ⟨rfl, rfl⟩ := h
        exact ⟨rfl, fun _ => by simp only [hfd, Option.bind_some, hz]; rw [if_pos hc]⟩
      · cases h
    · simp only [Option.bind_eq_some_iff] at h
      obtain ⟨fd, hfd, obj, hL, h⟩ := h
      split at h
      · rename_i hc
        simp only [Option.some.injEq, Prod.mk.injEq] at h
        obtain ⟨rfl, rfl⟩ := h
        exact ⟨rfl, fun M => by simp only [hfd, Option.bind_some, get_grow hL]; rw [if_pos hc]⟩
      · cases h
    · cases h
  case indexAddr t y ix =>
    simp only [rd_L env L]
    split at h
    · split at h
      · rename_i h0
        simp only [Option.bind_eq_some_iff] at h
        obtain ⟨z, hz, h⟩ := h
        split at h
        · rename_i hc
          simp only [Option.some.injEq, Prod.mk.injEq] at h
          obtain ⟨rfl, rfl⟩ := h
          refine ⟨rfl, fun _ => ?_⟩
          rw [if_pos h0]
          simp only [hz, Option.bind_some]
          rw [if_pos hc]
        · cases h
      · cases h
    · split at h
      · rename_i obj hL
        split at h
        · rename_i hc
          simp only [Option.some.injEq, Prod.mk.injEq] at h
          obtain ⟨rfl, rfl⟩ := h
          refine ⟨rfl, fun M => ?_⟩
          simp only [get_grow hL]
          rw [if_pos hc]
        · cases h
      · cases h
    · split at h
      · rename_i hc
        simp only [Option.bind_eq_some_iff, Option.some.injEq, Prod.mk.injEq] at h
        obtain ⟨z, hz, rfl, rfl⟩ := h
        refine ⟨rfl, fun _ => ?_⟩
        rw [if_pos hc]
        simp only [hz, Option.bind_some]
      · cases h
    · split at h
      · rename_i obj hL
        split at h
        · rename_i hc
          simp only [Option.some.injEq, Prod.mk.injEq] at h
          obtain ⟨rfl, rfl⟩ := h
          refine ⟨rfl, fun M => ?_⟩
          simp only [get_grow hL]
          rw [if_pos hc]
        · cases h
      · cases h
    · cases h
  case call cl =>
    obtain ⟨callee, args, argTypes⟩ := cl
    cases callee
    case value g => simp at hk
    case invoke r m => simp at hk
    rename_i b
    cases b <;> simp only at hk <;> try (simp at hk; done)
    simp only [aop, rd_L env L] at h ⊢
    split at h
    · rename_i t y ht hy
      split at h
      · simp only [Option.some.injEq, Prod.mk.injEq] at h
        obtain ⟨rfl, rfl⟩ := h
        exact ⟨rfl, fun _ => rfl⟩
      · simp only [Option.some.injEq, Prod.mk.injEq] at h
        obtain ⟨rfl, rfl⟩ := h
        exact ⟨rfl, fun _ => rfl⟩
      · simp only [Option.some.injEq, Prod.mk.injEq] at h
        obtain ⟨rfl, rfl⟩ := h
        exact ⟨rfl, fun _ => rfl⟩
      · simp only [Option.some.injEq, Prod.mk.injEq] at h
        obtain ⟨rfl, rfl⟩ := h
        exact ⟨rfl, fun _ => rfl⟩
      · simp only [Option.bind_eq_some_iff] at h
        obtain ⟨obj, hL, h⟩ := h
        split at h
        · rename_i hc
          simp only [Option.some.injEq, Prod.mk.injEq] at h
          obtain ⟨rfl, rfl⟩ := h
          refine ⟨rfl, fun M => ?_⟩
          simp only [get_grow hL, Option.bind_some]
          rw [if_pos hc]
        · cases h
      · cases h
    · cases h

/-- What makes an object makes it behind those that are there, whatever they are. -/
theorem aopD_make {P : Program} {o : Oper} {env : Nat → AV} {L L' : List AObj} {x : AV} (hk : okind o = 2) (h : aopD P ⟨env, L⟩ o.op = some (x, L')) : ∃ z, L' = L ++ [z] := by
  unfold okind at hk
  cases hop : o.op <;> rw [hop] at hk h <;> simp only at hk <;> try (simp at hk; done)
  all_goals simp only [aopD, aop] at h
  case alloc t =>
    simp only [Option.bind_eq_some_iff] at h
    obtain ⟨z, hz, h⟩ := h
    split at h
    · simp only [Option.some.injEq, Prod.mk.injEq] at h
      exact ⟨_, h.2.symm⟩
    · cases h
  case box t y =>
    split at h
    · simp only [Option.some.injEq, Prod.mk.injEq] at h
      exact ⟨_, h.2.symm⟩
    · cases h
  case buildSlice t len ps =>
    split at h
    · split at h
      · simp only [Option.bind_eq_some_iff] at h
        obtain ⟨z, hz, h⟩ := h
        split at h
        · simp only [Option.map_eq_some_iff, Prod.mk.injEq] at h
          obtain ⟨ys, _, _, h⟩ := h
          exact ⟨_, h.symm⟩
        · cases h
      · cases h
    · cases h
  case makeSlice t y1 y2 =>
    split at h
    · split at h
      · simp only [Option.bind_eq_some_iff] at h
        obtain ⟨z, hz, h⟩ := h
        split at h
        · simp only [Option.some.injEq, Prod.mk.injEq] at h
          exact ⟨_, h.2.symm⟩
        · cases h
      · cases h
    · cases h
  case call cl =>
    obtain ⟨callee, args, argTypes⟩ := cl
    cases callee
    case value g => simp at hk
    case invoke r m => simp at hk
    rename_i b
    cases b <;> simp at hk

end Go.Proofs.Ytpneikbihcoaaab.Vm

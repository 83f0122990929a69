/- Calls, and the operations of a region in the text's order. -/
import Derived.Test.YtpneikbihcoaaabVm13
import Derived.Tactics
namespace Go.Proofs.Ytpneikbihcoaaab.Vm
set_option linter.unusedVariables false
set_option linter.unusedSimpArgs false

/-- A function that is walked: it has a body. -/
def callable (P : Program) (f : FuncId) : Bool :=
  match P.funcs[f]? with
  | some fn => fn.body.isSome && !(fn.name == "runtime.NumGoroutine")
  | none => false

/-- A world that differs where it may. -/
structure ExtW (W : Nat → Prop) (w w' : World) : Prop where
  os : w'.os = w.os
  tape : w'.tape = w.tape
  output : w'.output = w.output
  size : w.heap.size ≤ w'.heap.size
  block : ∀ k, k < w.heap.size → ¬ W k → w'.heap[k]? = w.heap[k]?

/-- What a call comes to. -/
def Came (w : World) (L : List AObj) (β : List PO) (S0 W : Nat → Prop) (R : AV → List AObj → Prop) (e : Ending) (w' : World) : Prop :=
  ∃ v β' r L', e = .returned v ∧ R r L' ∧ (memOf w.heap L β S0).Le (memOf w'.heap L' β' S0) ∧ HeapRel w'.heap L' β' S0 W ∧ ExtW W w w' ∧ VR (memOf w'.heap L' β' S0) r v

/-- Called with these values, with these objects about, the function returns, with a value and objects of which R says what they are. -/
def ACall (P : Program) (f : FuncId) (args : List AV) (L : List AObj) (R : AV → List AObj → Prop) : Prop :=
  callable P f = true ∧ ∀ (w : World) (β : List PO) (S0 W : Nat → Prop) (vals : List Value), (∀ b, S0 b → b < w.heap.size) → (∀ b, w.heap.size ≤ b → W b) →
    HeapRel w.heap L β S0 W → VRs (memOf w.heap L β S0) args vals → Calls P f vals.toArray w (Came w L β S0 W R)

theorem ACall.mono {P : Program} {f : FuncId} {args : List AV} {L : List AObj} {R R' : AV → List AObj → Prop} (h : ACall P f args L R) (hr : ∀ r L', R r L' → R' r L') : ACall P f args L R' :=
  ⟨h.1, fun w β S0 W vals h1 h2 h3 h4 => (h.2 w β S0 W vals h1 h2 h3 h4).mono fun e w' ⟨v, β', r, L', g1, g2, g3⟩ => ⟨v, β', r, L', g1, hr _ _ g2, g3⟩⟩

/-! ### Operations in the text's order -/

/-- Is an operation wanted? -/
def awanted (ops : Array Oper) (env : Nat → AV) (o : Oper) : Option Bool :=
  match o.guard with
  | none => some true
  | some (j, want) => match (ops[j]?).bind (·.dst) with
    | none => none
    | some d => match env d with
      | .bool b => some (b == want)
      | .tup [] => some false
      | _ => none

def dstOk (n : Nat) (d : Option Nat) : Bool :=
  match d with
  | none => true
  | some d => d < n

/-- The operations of a list, from a state, come to a state of which K says what it is. -/
def AOps (c : Ctx) (ops : Array Oper) (l : List Oper) (σ : AState) (K : AState → Prop) : Prop :=
  ∀ a w β, Rel c σ a w β → wpList c.P ops (fun e a' w' => e = .normal ∧ ∃ σ' β', K σ' ∧ Rel c σ' a' w' β') l a w

theorem AOps.nil {c : Ctx} {ops : Array Oper} {σ : AState} {K : AState → Prop} (h : K σ) : AOps c ops [] σ K :=
  fun a w β hr => wpList_nil ⟨rfl, σ, β, h, hr⟩

theorem awanted_sound {c : Ctx} {ops : Array Oper} {σ : AState} {a : Act} {w : World} {β : List PO} (h : Rel c σ a w β) {o : Oper} {b : Bool} (hw : awanted ops σ.env o = some b)
    (hd : ∀ j want d, o.guard = some (j, want) → (ops[j]?).bind (·.dst) = some d → d < c.n) : Region.wanted o (yielded ops a.tmps) = b := by
  unfold awanted at hw
  unfold Region.wanted
  cases hg : o.guard with
  | none => rw [hg] at hw; simp at hw; exact hw.symm
  | some gw =>
    obtain ⟨j, want⟩ := gw
    rw [hg] at hw
    simp only at hw ⊢
    unfold yielded
    cases hdst : (ops[j]?).bind (·.dst) with
    | none => rw [hdst] at hw; cases hw
    | some d =>
      rw [hdst] at hw
      simp only at hw
      have hlt := hd j want d hg hdst
      have hv := h.env d
      have hget : a.tmps[d]? = some (a.tmps.getD d undef) := by
        have : d < a.tmps.size := by rw [h.size]; exact hlt
        simp [this]
      simp only [Option.bind_some, hget]
      split at hw
      · rename_i b' hb
        rw [hb] at hv
        have hv := hv.bool
        simp only [Option.some.injEq] at hw
        rw [hv]
        simpa using hw
      · rename_i hb
        rw [hb] at hv
        obtain ⟨vs, e1, e2⟩ := hv.tup
        simp only [Option.some.injEq] at hw
        rw [e1]
        simpa using hw
      · cases hw

/-- A guard's own operation writes a slot of the frame. -/
def guardOk (n : Nat) (ops : Array Oper) (o : Oper) : Bool :=
  match o.guard with
  | none => true
  | some (j, _) => match (ops[j]?).bind (·.dst) with
    | none => false
    | some d => d < n

theorem guardOk_sound {n : Nat} {ops : Array Oper} {o : Oper} (h : guardOk n ops o = true) : ∀ j want d, o.guard = some (j, want) → (ops[j]?).bind (·.dst) = some d → d < n := by
  intro j want d hg hd
  unfold guardOk at h
  rw [hg] at h
  simp only [hd] at h
  simpa using h

theorem AOps.op {c : Ctx} {ops : Array Oper} {o : Oper} {rest : List Oper} {σ : AState} {K : AState → Prop} {x : AV} {L' : List AObj} (hw : awanted ops σ.env o = some true) (hg : guardOk c.n ops o = true)
    (he : aop c.P σ o.op = some (x, L')) (hd : dstOk c.n o.dst = true) (h : AOps c ops rest ⟨updO σ.env o.dst x, L'⟩ K) : AOps c ops (o :: rest) σ K := by
  intro a w β hr
  refine wpList_step fun K' hK => ?_
  rw [if_pos (awanted_sound hr hw (guardOk_sound hg))]
  obtain ⟨n, v, w', β', e1, e2, e3, e4, e5, e6⟩ := aop_good hr he
  have hd' : ∀ i, o.dst = some i → i < c.n := fun i hi => by rw [hi] at hd; simpa [dstOk] using hd
  have hrel : Rel c ⟨updO σ.env o.dst x, L'⟩ (a.put o.dst v) w' β' := hr.step o.dst e3 e4 e5 hd' e6
  unfold Oper.wp
  rw [e1]
  rcases e2 with rfl | ⟨rfl, rfl⟩
  · simp only [Oper.upon_value]
    exact hK _ _ (h _ _ _ hrel)
  · simp only [Oper.upon_skip]
    exact hK _ _ (h _ _ _ hrel)

theorem Rel.put_undef {c : Ctx} {σ : AState} {a : Act} {w : World} {β : List PO} (h : Rel c σ a w β) (d : Option Nat) (hd : dstOk c.n d = true) : Rel c ⟨updO σ.env d (.tup []), σ.L⟩ (a.put d undef) w β :=
  h.step d (Mem.Le.refl _) h.heap h.ext (fun i hi => by rw [hi] at hd; simpa [dstOk] using hd) (by simp only [VR]; exact ⟨[], rfl, by simp [VRs]⟩)

theorem AOps.skip {c : Ctx} {ops : Array Oper} {o : Oper} {rest : List Oper} {σ : AState} {K : AState → Prop} (hw : awanted ops σ.env o = some false) (hg : guardOk c.n ops o = true)
    (hd : dstOk c.n o.dst = true) (h : AOps c ops rest ⟨updO σ.env o.dst (.tup []), σ.L⟩ K) : AOps c ops (o :: rest) σ K := by
  intro a w β hr
  refine wpList_step fun K' hK => ?_
  rw [if_neg (by rw [awanted_sound hr hw (guardOk_sound hg)]; simp)]
  exact hK _ _ (h _ _ _ (hr.put_undef o.dst hd))

/-- The function and the arguments of a call. -/
def callee (σ : AState) (o : Oper) : Option (FuncId × List AV) :=
  match o.op with
  | .call { callee := .value f, args, .. } => match σ.rd f with
    | .fn f caps => if caps.all AV.one then some (f, args.toList.map σ.rd ++ caps) else none
    | _ => none
  | _ => none

theorem VR.to1 {m : Mem} {x : AV} {v : Value} (h : VR m x v) (hx : x.memo = true) : VR1 m x v := by
  cases x <;> simp_all [VR, AV.memo]

theorem VRs.append {m : Mem} : ∀ {xs ys : List AV} {v1 v2 : List Value}, VRs m xs v1 → VRs m ys v2 → VRs m (xs ++ ys) (v1 ++ v2)
  | [], ys, v1, v2, h1, h2 => by simp only [VRs] at h1; subst h1; simpa using h2
  | x :: xs, ys, v1, v2, h1, h2 => by
    simp only [VRs, List.cons_append] at h1 ⊢
    obtain ⟨v, vs, rfl, e1, e2⟩ := h1
    exact ⟨v, vs ++ v2, by simp, e1, VRs.append e2 h2⟩

theorem VRs.map {m : Mem} {σ : AState} {a : Act} (h : ∀ x, VR m (σ.rd x) (a.eval x)) : ∀ (l : List Operand), l.all (fun x => (match σ.rd x with | .tup _ => false | _ => true)) = true → VRs m (l.map σ.rd) (l.map a.eval)
  | [], _ => by simp [VRs]
  | x :: l, hl => by
    simp only [List.all_cons, Bool.and_eq_true] at hl
    simp only [List.map_cons, VRs]
    refine ⟨_, _, rfl, ?_, VRs.map h l hl.2⟩
    have := h x
    cases hr : σ.rd x <;> rw [hr] at this hl <;> simp_all [VR]

theorem CRcaps.VRs {m : Mem} : ∀ {caps : List AV} {vs : List Value}, CRcaps m caps vs → caps.all AV.one = true → VRs m caps vs
  | [], vs, h, _ => by simpa [CRcaps, Vm.VRs] using h
  | x :: caps, vs, h, ho => by
    simp only [CRcaps] at h
    obtain ⟨v, vs', rfl, h1, h2⟩ := h
    simp only [List.all_cons, Bool.and_eq_true] at ho
    simp only [Vm.VRs]
    refine ⟨v, vs', rfl, ?_, CRcaps.VRs h2 ho.2⟩
    have := VR.of_one ho.1 h1
    cases x <;> simp_all [VR, AV.one]

def noTup (x : AV) : Bool :=
  match x with
  | .tup _ => false
  | _ => true

theorem VRs.len {m : Mem} : ∀ {xs : List AV} {vs : List Value}, VRs m xs vs → vs.length = xs.length
  | [], vs, h => by simp only [VRs] at h; subst h; rfl
  | x :: xs, vs, h => by
    simp only [VRs] at h
    obtain ⟨v, vs', rfl, _, h2⟩ := h
    simp [VRs.len h2]

theorem AOps.call {c : Ctx} {ops : Array Oper} {o : Oper} {rest : List Oper} {σ : AState} {K : AState → Prop} {f : FuncId} {args : List AV} {R : AV → List AObj → Prop} (hw : awanted ops σ.env o = some true)
    (hg : guardOk c.n ops o = true) (he : callee σ o = some (f, args)) (hargs : args.all noTup = true) (hd : dstOk c.n o.dst = true) (hcall : ACall c.P f args σ.L R)
    (h : ∀ r L', R r L' → AOps c ops rest ⟨updO σ.env o.dst r, L'⟩ K) : AOps c ops (o :: rest) σ K := by
  intro a w β hr
  refine wpList_step fun K' hK => ?_
  rw [if_pos (awanted_sound hr hw (guardOk_sound hg))]
  unfold callee at he
  split at he
  · rename_i fo fargs atys hop
    split at he
    · rename_i f' caps hfo
      split at he
      case isFalse => cases he
      rename_i hone
      simp only [Option.some.injEq, Prod.mk.injEq] at he
      obtain ⟨rfl, rfl⟩ := he
      obtain ⟨cvs, k1, k2⟩ := (hfo ▸ hr.rd fo : VR _ (.fn f' caps) _).fn
      obtain ⟨hcl, hcalls⟩ := hcall
      have hvr : VRs (memOf w.heap σ.L β c.S0) (fargs.toList.map σ.rd ++ caps) (fargs.toList.map a.eval ++ cvs) := by
        refine VRs.append (VRs.map hr.rd _ ?_) (CRcaps.VRs k2 hone)
        rw [List.all_append, Bool.and_eq_true] at hargs
        have h1 := hargs.1
        rw [List.all_map] at h1
        exact h1
      have hS : ∀ b, c.S0 b → b < w.heap.size := fun b hb => Nat.lt_of_lt_of_le (hr.S0 b hb) hr.ext.size
      have hW : ∀ b, w.heap.size ≤ b → c.W b := fun b hb => .inl (Nat.le_trans hr.ext.size hb)
      have hc := hcalls w β c.S0 c.W _ hS hW hr.heap hvr
      have hrun : (execOp a.eval o).run c.P w = .ok (.enter f' (fargs.toList.map a.eval ++ cvs).toArray) w := by
        unfold callable at hcl
        cases hf : c.P.funcs[f']? with
        | none => rw [hf] at hcl; cases hcl
        | some fn =>
          rw [hf] at hcl
          simp only [Bool.and_eq_true, Bool.not_eq_true'] at hcl
          have h2 : fn.body.isNone = false := by
            cases hb : fn.body <;> simp_all
          have harr : (fargs.map a.eval) ++ cvs.toArray = (fargs.toList.map a.eval ++ cvs).toArray := by
            apply Array.ext'; simp
          simp only [execOp, hop, resolve, Deferred.ofValue, k1, Sem.run_bind, Sem.run_pure, Result.andThen_ok, invoke, callFunc, run_program, hf, hcl.2, h2, Bool.false_eq_true, if_false, Array.empty_append, harr]
      unfold Oper.wp
      rw [hrun, Oper.upon_enter]
      refine hc.mono ?_
      rintro e w' ⟨v, β', r, L', rfl, g1, g2, g3, g4, g5⟩
      have hext : Ext c w' := by
        refine ⟨g4.os.trans hr.ext.os, g4.tape.trans hr.ext.tape, g4.output.trans hr.ext.output, Nat.le_trans hr.ext.size g4.size, fun k hk hn => ?_⟩
        rw [g4.block k (Nat.lt_of_lt_of_le hk hr.ext.size) (fun hw => by rcases hw with hw | hw; omega; exact hn hw)]
        exact hr.ext.block k hk hn
      have hd' : ∀ i, o.dst = some i → i < c.n := fun i hi => by rw [hi] at hd; simpa [dstOk] using hd
      exact hK _ _ (h r L' g1 _ _ _ (hr.step o.dst g2 g3 hext hd' g5))
    · cases he
  · cases he

/-- Is it a call of a function? -/
def isCall (o : Oper) : Bool :=
  match o.op with
  | .call { callee := .builtin _, .. } => false
  | .call _ => true
  | _ => false

/-- The operations up to the next call. -/
def runTo (P : Program) (n : Nat) (ops : Array Oper) : List Oper → AState → Option (AState × List Oper)
  | [], σ => some (σ, [])
  | o :: rest, σ =>
    match awanted ops σ.env o with
    | some true => if isCall o then some (σ, o :: rest) else match aop P σ o.op with
      | some (x, L') => if dstOk n o.dst && guardOk n ops o then runTo P n ops rest ⟨updO σ.env o.dst x, L'⟩ else none
      | none => some (σ, o :: rest)
    | some false => if dstOk n o.dst && guardOk n ops o then runTo P n ops rest ⟨updO σ.env o.dst (.tup []), σ.L⟩ else none
    | none => none

theorem AOps.to {c : Ctx} {ops : Array Oper} {K : AState → Prop} : ∀ {l : List Oper} {σ : AState}, (match runTo c.P c.n ops l σ with | some (σ', l') => AOps c ops l' σ' K | none => False) → AOps c ops l σ K
  | [], σ, h => by simpa [runTo] using h
  | o :: rest, σ, h => by
    unfold runTo at h
    cases hw : awanted ops σ.env o with
    | none => rw [hw] at h; exact h.elim
    | some b =>
      rw [hw] at h
      cases b with
      | true =>
        simp only at h
        by_cases hc : isCall o = true
        · rw [if_pos hc] at h; exact h
        · rw [if_neg hc] at h
          cases he : aop c.P σ o.op with
          | none => rw [he] at h; exact h
          | some p =>
            obtain ⟨x, L'⟩ := p
            rw [he] at h
            simp only at h
            by_cases hd : (dstOk c.n o.dst && guardOk c.n ops o) = true
            · rw [if_pos hd] at h
              simp only [Bool.and_eq_true] at hd
              exact AOps.op hw hd.2 he hd.1 (AOps.to h)
            · rw [if_neg hd] at h; exact h.elim
      | false =>
        simp only at h
        by_cases hd : (dstOk c.n o.dst && guardOk c.n ops o) = true
        · rw [if_pos hd] at h
          simp only [Bool.and_eq_true] at hd
          exact AOps.skip hw hd.2 hd.1 (AOps.to h)
        · rw [if_neg hd] at h; exact h.elim

end Go.Proofs.Ytpneikbihcoaaab.Vm

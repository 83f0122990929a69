/- How a contract is begun and ended. -/
import Derived.Test.YtpneikbihcoaaabVm20
namespace Go.Proofs.Ytpneikbihcoaaab.Vm
set_option linter.unusedVariables false
set_option linter.unusedSimpArgs false

variable {c : Ctx} {f : FuncId} {σ : AState} {R : AV → List AObj → Prop} {k : List Item}

/-- May the regions of this code that draw their order be told in the text's order? Those of `bad` are told apart. -/
def codeOk (bad : List Nat) : Code → Bool
  | .region id ops true => bad.contains id || lexD ops ops.size 0 (Array.replicate ops.size false)
  | .seq a b => codeOk bad a && codeOk bad b
  | .cond _ a b => codeOk bad a && codeOk bad b
  | .block _ a => codeOk bad a
  | .loop a => codeOk bad a
  | _ => true

def todoOk (bad : List Nat) : List Item → Bool
  | [] => true
  | .code c :: k => codeOk bad c && todoOk bad k
  | .inLoop c :: k => codeOk bad c && todoOk bad k
  | _ :: k => todoOk bad k

theorem todoOk_exit {bad : List Nat} {id : Nat} : ∀ {k k' : List Item}, exitTo id k = some k' → todoOk bad k = true → todoOk bad k' = true
  | [], k', h, _ => by simp [exitTo] at h
  | .inBlock j :: k, k', h, ho => by
    simp only [exitTo] at h
    split at h
    · obtain rfl := Option.some.inj h; simpa [todoOk] using ho
    · exact todoOk_exit h (by simpa [todoOk] using ho)
  | .code c :: k, k', h, ho => by
    simp only [exitTo] at h
    simp only [todoOk, Bool.and_eq_true] at ho
    exact todoOk_exit h ho.2
  | .inLoop c :: k, k', h, ho => by
    simp only [exitTo] at h
    simp only [todoOk, Bool.and_eq_true] at ho
    exact todoOk_exit h ho.2
  | .inScope c :: k, k', h, ho => by
    simp only [exitTo] at h
    exact todoOk_exit h (by simpa [todoOk] using ho)
  | .inRegion o t :: k, k', h, ho => by
    simp only [exitTo] at h
    exact todoOk_exit h (by simpa [todoOk] using ho)
  | .inRangeFunc l :: k, k', h, ho => by
    simp only [exitTo] at h
    exact todoOk_exit h (by simpa [todoOk] using ho)
  | .endRangeFunc l :: k, k', h, ho => by
    simp only [exitTo] at h
    exact todoOk_exit h (by simpa [todoOk] using ho)
  | .beginRound :: k, k', h, ho => by
    simp only [exitTo] at h
    exact todoOk_exit h (by simpa [todoOk] using ho)
  | .call d a r s :: k, k', h, ho => by
    simp only [exitTo] at h
    exact todoOk_exit h (by simpa [todoOk] using ho)
  | .extern r a :: k, k', h, ho => by
    simp only [exitTo] at h
    exact todoOk_exit h (by simpa [todoOk] using ho)

/-- The walk, up to the next call, loop or end. -/
def G (P : Program) (n : Nat) (bad : List Nat) (c : Ctx) (f : FuncId) (ps : List Nat) (R : AV → List AObj → Prop) : Nat → List Item → AState → Prop
  | 0, t, σ => AGo c f t σ R
  | m + 1, .code (.seq x y) :: k, σ => G P n bad c f ps R m (.code x :: .code y :: k) σ
  | m + 1, .code .skip :: k, σ => G P n bad c f ps R m k σ
  | m + 1, .code (.label _) :: k, σ => G P n bad c f ps R m k σ
  | m + 1, .code (.cond y t e) :: k, σ => match σ.rd y with
    | .bool b => if b = true then G P n bad c f ps R m (.code t :: k) σ else G P n bad c f ps R m (.code e :: k) σ
    | _ => False
  | m + 1, .code (.block id x) :: k, σ => G P n bad c f ps R m (.code x :: .inBlock id :: k) σ
  | m + 1, .code (.exit id) :: k, σ => match exitTo id k with
    | some k' => if bad.contains (100000 + id) then AGo c f k' σ R else G P n bad c f ps R m k' σ
    | none => False
  | m + 1, .code (.region _ ops false) :: k, σ => match runTo P n ops ops.toList σ with
    | some (σ', []) => G P n bad c f ps R m k ⟨lk (ps.map fun j => (j, σ'.env j)), σ'.L⟩
    | some (σ', o :: l) => AOps c ops (o :: l) σ' (AK c f ps k R)
    | none => False
  | m + 1, .code (.region id ops true) :: k, σ => if bad.contains id then AGo c f (.code (.region id ops true) :: k) σ R else match runD P n ops ops.toList σ with
    | some (σ', []) => G P n bad c f ps R m k ⟨lk (ps.map fun j => (j, σ'.env j)), σ'.L⟩
    | some (σ', o :: l) => AOpsD c ops (AK c f ps k R) (o :: l) σ'
    | none => False
  | m + 1, .inBlock _ :: k, σ => G P n bad c f ps R m k σ
  | _ + 1, t, σ => AGo c f t σ R

section
variable {P : Program} {n : Nat} {bad : List Nat} {ps : List Nat} {m : Nat}
@[simp high] theorem G_inLoop {y : Code} : G P n bad c f ps R m (.inLoop y :: k) σ = AGo c f (.inLoop y :: k) σ R := by cases m <;> rfl
@[simp high] theorem G_loop {y : Code} : G P n bad c f ps R m (.code (.loop y) :: k) σ = AGo c f (.code (.loop y) :: k) σ R := by cases m <;> rfl
@[simp high] theorem G_ret : G P n bad c f ps R m (.code .ret :: k) σ = AGo c f (.code .ret :: k) σ R := by cases m <;> rfl
@[simp high] theorem G_nil : G P n bad c f ps R m [] σ = AGo c f [] σ R := by cases m <;> rfl
end

theorem AGo.go {P : Program} {n : Nat} (hP : c.P = P) (hn : c.n = n) (hm : P.follows .mixedOrders = true) (bad : List Nat) (ps : List Nat) : ∀ (m : Nat) {t : List Item} {σ : AState}, todoOk bad t = true →
    G P n bad c f ps R m t σ → AGo c f t σ R
  | 0, _, _, _, h => h
  | m + 1, t, σ, ho, h => by
    unfold G at h
    split at h
    · rename_i h0; cases h0
    · rename_i h0
      obtain rfl := Nat.succ.inj h0
      simp only [todoOk, codeOk, Bool.and_eq_true] at ho
      exact AGo.seq (AGo.go hP hn hm bad ps _ (by simp [todoOk, ho]) h)
    · rename_i h0; obtain rfl := Nat.succ.inj h0; exact AGo.skip (AGo.go hP hn hm bad ps _ (by simpa [todoOk, codeOk] using ho) h)
    · rename_i h0; obtain rfl := Nat.succ.inj h0; exact AGo.label (AGo.go hP hn hm bad ps _ (by simpa [todoOk, codeOk] using ho) h)
    · rename_i h0
      obtain rfl := Nat.succ.inj h0
      simp only [todoOk, codeOk, Bool.and_eq_true] at ho
      split at h
      · rename_i b hb
        exact AGo.ite hb (fun hb' => AGo.go hP hn hm bad ps _ (by simp [todoOk, ho]) (by rw [if_pos hb'] at h; exact h)) (fun hb' => AGo.go hP hn hm bad ps _ (by simp [todoOk, ho]) (by rw [if_neg (by simp [hb'])] at h; exact h))
      · exact h.elim
    · rename_i h0; obtain rfl := Nat.succ.inj h0; exact AGo.block (AGo.go hP hn hm bad ps _ (by simpa [todoOk, codeOk] using ho) h)
    · rename_i h0
      obtain rfl := Nat.succ.inj h0
      split at h
      · rename_i k' hk
        split at h
        · exact AGo.exit hk h
        · exact AGo.exit hk (AGo.go hP hn hm bad ps _ (todoOk_exit hk (by simpa [todoOk, codeOk] using ho)) h)
      · exact h.elim
    · rename_i h0
      obtain rfl := Nat.succ.inj h0
      subst hP hn
      split at h
      · rename_i σ' hr
        refine AGo.region (K := fun s => s = σ') (AOps.to ?_) ?_
        · rw [hr]; exact AOps.nil rfl
        · rintro s rfl
          exact AGo.keep ps (AGo.go rfl rfl hm bad ps _ (by simpa [todoOk, codeOk] using ho) h)
      · rename_i σ' o l hr
        rename_i k0 x0
        refine AGo.region (K := AK c f ps k0 R) (AOps.to (by rw [hr]; exact h)) ?_
        intro s hs
        exact AGo.keep ps hs
      · exact h.elim
    · rename_i h0
      obtain rfl := Nat.succ.inj h0
      split at h
      · exact h
      · rename_i hbad
        simp only [todoOk, codeOk, Bool.and_eq_true, Bool.or_eq_true, hbad, Bool.false_eq_true, false_or] at ho
        subst hP hn
        split at h
        · rename_i σ' hr
          refine AGo.regionD (K := fun s => s = σ') hm ho.1 (AOpsD.to ?_) ?_
          · rw [hr]; exact rfl
          · rintro s rfl
            exact AGo.keep ps (AGo.go rfl rfl hm bad ps _ ho.2 h)
        · rename_i σ' o l hr
          rename_i k0 x0
          refine AGo.regionD (K := AK c f ps k0 R) hm ho.1 (AOpsD.to (by rw [hr]; exact h)) ?_
          intro s hs
          exact AGo.keep ps hs
        · exact h.elim
    · rename_i h0; obtain rfl := Nat.succ.inj h0; exact AGo.inBlock (AGo.go hP hn hm bad ps _ (by simpa [todoOk] using ho) h)
    · exact h

attribute [simp] G runTo aop aopD runD okind awanted isCall dstOk guardOk exitTo rd_tmp rd_int rd_bool rd_str rd_nilS rd_nilP rd_func updO_some updO_none upd_at lk_cons lk_nil binAV intOp strOp unAV
  heap_get heap_get0 heap_set heap_set0 heap_len heap_app resAV resAll resOne noTup argEnv pickAV AV.size AV.sizes AV.shaped AV.one TK.isAgg AV.getP AV.offP AV.setP fillAV callee
  AV.closed AV.closedL eqAV eqAVs TK.fits AV.strFit AState.more AState.elems boundAV

section
@[simp] theorem memo_any : AV.any.memo = false := rfl
@[simp] theorem memo_tup (xs : List AV) : (AV.tup xs).memo = false := rfl
@[simp] theorem memo_int (k : IntKind) (n : Int) : (AV.int k n).memo = true := rfl
@[simp] theorem memo_bool (b : Bool) : (AV.bool b).memo = true := rfl
@[simp] theorem memo_str (b : ByteArray) : (AV.str b).memo = true := rfl
@[simp] theorem memo_agg (xs : List AV) : (AV.agg xs).memo = true := rfl
@[simp] theorem memo_slice (xs : List AV) : (AV.slice xs).memo = true := rfl
@[simp] theorem memo_ref (x : AV) : (AV.ref x).memo = true := rfl
@[simp] theorem memo_nilS : AV.nilS.memo = true := rfl
@[simp] theorem memo_nilP : AV.nilP.memo = true := rfl
@[simp] theorem memo_fn (f : FuncId) (xs : List AV) : (AV.fn f xs).memo = true := rfl
@[simp] theorem memo_own (o ver off len : Nat) : (AV.own o ver off len).memo = true := rfl
@[simp] theorem memo_addr (o ver i : Nat) (p : List Nat) (off : Nat) : (AV.addr o ver i p off).memo = true := rfl
end

theorem ACall.walk {P : Program} {fn : Func} {code : Code} {args : List AV} {L : List AObj} (hcl : callable P f = true) (hf : P.funcs[f]? = some fn) (hb : fn.body = some code) (hn : decide (args.length ≤ fn.ntmps) = true)
    (hall : args.all noTup = true) (hm : P.follows .mixedOrders = true) (bad : List Nat) (hok : codeOk bad code = true) (ps : List Nat) (m : Nat)
    (h : ∀ c : Ctx, c.P = P → c.n = fn.ntmps → c.L0 = L → G P fn.ntmps bad c f ps R m [.code code] ⟨lk (argEnv args 0), L⟩) : ACall P f args L R :=
  ACall.body hcl hf hb (of_decide_eq_true hn) hall fun c h1 h2 h3 => AGo.go h1 h2 hm bad ps m (by simp [todoOk, hok]) (h c h1 h2 h3)

theorem AGo.ret_is {P : Program} {fn : Func} {L : List AObj} {x r : AV} (hP : c.P = P) (hf : P.funcs[f]? = some fn) (h0 : c.L0 = L) (hwf : WFL L) (hr : resAV P σ fn.results.toList = some r) (hL : σ.L = L)
    (hcl : r.closed = true) (hx : r = x) : AGo c f (.code .ret :: k) σ (Is x L) := by
  subst hP h0 hx
  exact AGo.ret_of hf hr (Exports.plain (M := []) (by simpa using hL) hwf hcl ⟨rfl, rfl⟩)

theorem AGo.ret_isM {P : Program} {fn : Func} {L M : List AObj} {x r : AV} (hP : c.P = P) (hf : P.funcs[f]? = some fn) (h0 : c.L0 = L) (hwf : WFL L) (hr : resAV P σ fn.results.toList = some r) (hL : σ.L = L ++ M)
    (hcl : r.closed = true) (hx : r = x) : AGo c f (.code .ret :: k) σ (Is x L) := by
  subst hP h0 hx
  exact AGo.ret_of hf hr (Exports.plain hL hwf hcl ⟨rfl, rfl⟩)

/-- The result is a row of the function's own. -/
theorem AGo.ret_row {P : Program} {fn : Func} {L M : List AObj} {i ver off len : Nat} {obj : AObj} (hP : c.P = P) (hf : P.funcs[f]? = some fn) (h0 : c.L0 = L) (hwf : WFL L)
    (hr : resAV P σ fn.results.toList = some (.own (L.length + i) ver off len)) (hL : σ.L = L ++ M) (hM : M[i]? = some obj) (hcl : AV.closedL obj.elems = true)
    (hR : R (.own L.length ver off len) (L ++ [obj])) : AGo c f (.code .ret :: k) σ R := by
  subst hP h0
  have hlt := (List.getElem?_eq_some_iff.1 hM).1
  have hd : M.getD i default = obj := by simp [List.getD, hM]
  exact AGo.ret_of hf hr (Exports.row hL hwf hlt (by rw [hd]; exact hcl) (by rw [hd]; exact hR))

theorem AGo.of_keep {ps : List Nat} (h : AGo c f k ⟨lk (ps.map fun j => (j, σ.env j)), σ.L⟩ R) : AK c f ps k R σ := h

/-- A call of a function that is known, in a region; what follows it. -/
theorem AOps.step {P : Program} {n : Nat} (hP : c.P = P) (hn : c.n = n) {ops : Array Oper} {o : Oper} {rest : List Oper} {K : AState → Prop} {g : FuncId} {args : List AV} {Q : AV → List AObj → Prop}
    (hcall : ACall P g args σ.L Q)
    (hw : (awanted ops σ.env o == some true && guardOk n ops o && args.all noTup && dstOk n o.dst) = true) (he : callee σ o = some (g, args))
    (h : ∀ r L', Q r L' → (match runTo P n ops rest ⟨updO σ.env o.dst r, L'⟩ with | some (σ', l') => AOps c ops l' σ' K | none => False)) : AOps c ops (o :: rest) σ K := by
  subst hP hn
  simp only [Bool.and_eq_true, beq_iff_eq] at hw
  exact AOps.call hw.1.1.1 hw.1.1.2 he hw.1.2 hw.2 hcall fun r L' hq => AOps.to (h r L' hq)

/-- A call that changes no object, in a region that draws its order. -/
theorem AOpsD.step {P : Program} {n : Nat} (hP : c.P = P) (hn : c.n = n) {ops : Array Oper} {o : Oper} {rest : List Oper} {K : AState → Prop} {g : FuncId} {args : List AV} {r : AV}
    (hcall : ACall P g args σ.L (Is r σ.L))
    (hw : (awanted ops σ.env o == some true && guardOk n ops o && args.all noTup && dstOk n o.dst && okind o == 3) = true) (he : callee σ o = some (g, args))
    (h : match runD P n ops rest ⟨updO σ.env o.dst r, σ.L⟩ with | some (σ', l') => AOpsD c ops K l' σ' | none => False) : AOpsD c ops K (o :: rest) σ := by
  subst hP hn
  simp only [Bool.and_eq_true, beq_iff_eq] at hw
  obtain ⟨⟨⟨⟨h1, h2⟩, h3⟩, h4⟩, h5⟩ := hw
  exact ⟨_, ⟨h2, h4, r, σ.L, .inr ⟨h1, .inr ⟨h5, rfl, g, args, he, h3, hcall⟩⟩, rfl⟩, AOpsD.to h⟩

theorem AOpsD.nil {ops : Array Oper} {K : AState → Prop} (h : K σ) : AOpsD c ops K [] σ := h

theorem WFL.nil : WFL [] := fun _ h => by cases h

theorem WFL.append_closed {L M : List AObj} (h : WFL L) (hM : ∀ obj ∈ M, AV.closedL obj.elems = true) : WFL (L ++ M) := by
  intro obj hobj
  rcases List.mem_append.1 hobj with h1 | h1
  · exact AV.idsL_mono (fun o ho => by simp only [decide_eq_true_eq] at ho ⊢; simp; omega) _ (h obj h1)
  · exact AV.idsL_closed _ _ (hM obj h1)

attribute [irreducible] G

end Go.Proofs.Ytpneikbihcoaaab.Vm

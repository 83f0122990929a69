/- A record's words and fields: what the functions give. -/
import Derived.Test.YtpneikbihcoaaaaRec1
import Derived.Test.YtpneikbihcoaaaaVm21
open Go Go.Proofs Go.Proofs.Ytpneikbihcoaaaa
namespace Go.Proofs.Ytpneikbihcoaaaa.Vm
set_option linter.unusedVariables false
set_option linter.unusedSimpArgs false

/-- A record's words. -/
def RL (r : Nat → Int) : List AV :=
  [.int .u32 (r 0), .int .u32 (r 1), .int .u32 (r 2), .int .u32 (r 3), .int .u32 (r 4), .int .u32 (r 5), .int .u32 (r 6), .int .u32 (r 7),
    .int .u32 (r 8), .int .u32 (r 9), .int .u32 (r 10), .int .u32 (r 11), .int .u32 (r 12), .int .u32 (r 13), .int .u32 (r 14), .int .u32 (r 15)]

/-- A record. -/
def RA (r : Nat → Int) : AV := .agg (RL r)

theorem RL_get (r : Nat → Int) (i : Nat) (h : i < 16) : (RL r)[i]? = some (.int .u32 (r i)) := by
  rcases (by omega : i = 0 ∨ i = 1 ∨ i = 2 ∨ i = 3 ∨ i = 4 ∨ i = 5 ∨ i = 6 ∨ i = 7 ∨ i = 8 ∨ i = 9 ∨ i = 10 ∨ i = 11 ∨ i = 12 ∨ i = 13 ∨ i = 14 ∨ i = 15) with
    rfl | rfl | rfl | rfl | rfl | rfl | rfl | rfl | rfl | rfl | rfl | rfl | rfl | rfl | rfl | rfl <;> rfl
@[simp] theorem RL_len (r : Nat → Int) : (RL r).length = 16 := rfl
@[simp] theorem RL_all (r : Nat → Int) : ((RL r).all fun x => x.size == 1) = true := rfl
@[simp] theorem RL_size (r : Nat → Int) : ∀ x ∈ RL r, x.size = 1 := by simp [RL]
@[simp] theorem RL_sizes (r : Nat → Int) : AV.sizes (RL r) = 16 := rfl
@[simp] theorem RL_closed (r : Nat → Int) : AV.closedL (RL r) = true := rfl
@[simp] theorem RL_ids (r : Nat → Int) (p : Nat → Bool) : AV.idsL p (RL r) = true := rfl
theorem RL_set (r : Nat → Int) (i : Nat) (n : Int) (h : i < 16) : (RL r).set i (.int .u32 n) = RL fun j => if j = i then n else r j := by
  apply List.ext_getElem?
  intro j
  by_cases hj : j < 16
  · rw [RL_get _ j hj]
    by_cases hij : i = j
    · subst hij
      rw [List.getElem?_set_self (by rw [RL_len]; exact h), if_pos rfl]
    · rw [List.getElem?_set_ne hij, RL_get _ _ hj, if_neg (Ne.symm hij)]
  · rw [List.getElem?_eq_none (by rw [List.length_set, RL_len]; omega), List.getElem?_eq_none (by rw [RL_len]; omega)]
theorem sizes_ones : ∀ (xs : List AV), (∀ x ∈ xs, x.size = 1) → AV.sizes xs = xs.length
  | [], _ => rfl
  | x :: xs, h => by
    simp only [AV.sizes, h x (by simp), sizes_ones xs fun y hy => h y (by simp [hy]), List.length_cons]
    omega
theorem RL_take (r : Nat → Int) (i : Nat) (h : i ≤ 16) : AV.sizes ((RL r).take i) = i := by
  rw [sizes_ones _ fun x hx => RL_size r x (List.mem_of_mem_take hx), List.length_take, RL_len]
  omega

def OkR (r : Nat → Int) : Prop := ∀ i, 0 ≤ r i ∧ r i < 4294967296

def load (r : Nat → Int) (at_ : Int) : Int := if at_ < 64 ∧ at_ % 4 = 0 then r (at_ / 4).toNat else 0
def loadOk (at_ : Int) : Bool := decide (at_ < 64 ∧ at_ % 4 = 0)

def field (r : Nat → Int) (f : Int) : Int :=
  if f < 0 ∨ 9 ≤ f then 0 else if f < 2 then r f.toNat else r (2 * f - 2).toNat + 4294967296 * r (2 * f - 1).toNat
def isField (f : Int) : Bool := decide (0 ≤ f ∧ f < 9)

theorem cases_f {f : Int} (h0 : ¬ f < 0) (h1 : ¬ 9 ≤ f) : f = 0 ∨ f = 1 ∨ f = 2 ∨ f = 3 ∨ f = 4 ∨ f = 5 ∨ f = 6 ∨ f = 7 ∨ f = 8 := by omega

theorem load_run (r : Nat → Int) (n : Int) (h0 : 0 ≤ n) (L : List AObj) (hw : WFL L) : ACall Try.prog 15 [RA r, .int .u32 n] L (Is (.tup [.int .u32 (load r n), .bool (loadOk n)]) L) := by
  refine ACall.walk (by kernel_rfl) Try.func15 rfl rfl rfl rfl [] (by kernel_rfl) kp15 100 fun c hP hn hL => ?_
  by_cases h1 : 64 ≤ n
  · simp [Try.f15, RA, RL, h1]
    exact AGo.ret_isM hP Try.func15 hL hw (by simp [Try.f15]; rfl) rfl rfl (by simp [load, loadOk]; omega)
  · by_cases h2 : n % 4 = 0
    · have h3 : n = 0 ∨ n = 4 ∨ n = 8 ∨ n = 12 ∨ n = 16 ∨ n = 20 ∨ n = 24 ∨ n = 28 ∨ n = 32 ∨ n = 36 ∨ n = 40 ∨ n = 44 ∨ n = 48 ∨ n = 52 ∨ n = 56 ∨ n = 60 := by omega
      rcases h3 with rfl | rfl | rfl | rfl | rfl | rfl | rfl | rfl | rfl | rfl | rfl | rfl | rfl | rfl | rfl | rfl <;>
      · simp [Try.f15, RA, RL]
        exact AGo.ret_isM hP Try.func15 hL hw (by simp [Try.f15]; rfl) rfl rfl (by simp [load, loadOk])
    · have h3 : n.tmod 4 ≠ 0 := by rw [Int.tmod_eq_emod_of_nonneg h0]; exact h2
      simp [Try.f15, RA, RL, h1, h3]
      exact AGo.ret_isM hP Try.func15 hL hw (by simp [Try.f15]; rfl) rfl rfl (by simp [load, loadOk, h2])

theorem field_run (r : Nat → Int) (hr : OkR r) (f : Int) (L : List AObj) (hw : WFL L) : ACall Try.prog 16 [RA r, .int .i64 f] L (Is (.tup [.int .u64 (field r f), .bool (isField f)]) L) := by
  refine ACall.walk (by kernel_rfl) Try.func16 rfl rfl rfl rfl [] (by kernel_rfl) kp16 100 fun c hP hn hL => ?_
  have h0 := (hr 0).1
  by_cases hf : f < 0 ∨ 9 ≤ f
  · simp [Try.f16, RA, RL]
    refine AOps.callIs hP hn rfl [] 100 (place_run f _ (by simp [hw.append_closed])) (by simp) (by simp <;> rfl) (by kernel_rfl) ?_
    simp [place, hf]
    exact AGo.ret_isM hP Try.func16 hL hw (by simp [Try.f16]; rfl) rfl rfl (by simp [field, isField, hf]; omega)
  · rcases cases_f (f := f) (by omega) (by omega) with rfl | rfl | rfl | rfl | rfl | rfl | rfl | rfl | rfl
    iterate 2
      · simp [Try.f16, RA, RL]
        refine AOps.callIs hP hn rfl [] 100 (place_run _ _ (by simp [hw.append_closed])) (by simp) (by simp <;> rfl) (by kernel_rfl) ?_
        simp [place]
        exact AGo.ret_isM hP Try.func16 hL hw (by simp [Try.f16]; rfl) rfl rfl (by have := hr 0; have := hr 1; simp [field, isField]; omega)
    iterate 7
      · simp [Try.f16, RA, RL]
        refine AOps.callIs hP hn rfl [] 100 (place_run _ _ (by simp [hw.append_closed])) (by simp) (by simp <;> rfl) (by kernel_rfl) ?_
        simp [place]
        refine AOpsD.callIs hP hn rfl [] 100 (join_run _ _ (hr _) (hr _) _ (by simp [hw.append_closed])) (by simp) (by simp <;> exact ⟨rfl, rfl⟩) (by kernel_rfl) ?_
        simp
        exact AGo.ret_isM hP Try.func16 hL hw (by simp [Try.f16]; rfl) rfl rfl (by simp [field, isField])

theorem refField_run (r : Nat → Int) (hr : OkR r) (f : Int) (L : List AObj) (hw : WFL L) : ACall Try.prog 19 [RA r, .int .i64 f] L (Is (.int .u64 (field r f)) L) := by
  refine ACall.walk (by kernel_rfl) Try.func19 rfl rfl rfl rfl [] (by kernel_rfl) kp19 100 fun c hP hn hL => ?_
  have h0 := (hr 0).1
  by_cases hf : f < 0 ∨ 9 ≤ f
  · simp [Try.f19, RA, RL]
    refine AOps.callIs hP hn rfl [] 100 (refPlace_run f _ (by simp [hw.append_closed])) (by simp) (by simp <;> rfl) (by kernel_rfl) ?_
    simp [place, hf]
    exact AGo.ret_isM hP Try.func19 hL hw (by simp [Try.f19]; rfl) rfl rfl (by simp [field, hf])
  · rcases cases_f (f := f) (by omega) (by omega) with rfl | rfl | rfl | rfl | rfl | rfl | rfl | rfl | rfl
    iterate 2
      · simp [Try.f19, RA, RL]
        refine AOps.callIs hP hn rfl [] 100 (refPlace_run _ _ (by simp [hw.append_closed])) (by simp) (by simp <;> rfl) (by kernel_rfl) ?_
        simp [place]
        exact AGo.ret_isM hP Try.func19 hL hw (by simp [Try.f19]; rfl) rfl rfl (by have := hr 0; have := hr 1; simp [field]; omega)
    iterate 7
      · simp [Try.f19, RA, RL]
        refine AOps.callIs hP hn rfl [] 100 (refPlace_run _ _ (by simp [hw.append_closed])) (by simp) (by simp <;> rfl) (by kernel_rfl) ?_
        simp [place]
        exact AGo.ret_isM hP Try.func19 hL hw (by simp [Try.f19]; rfl) rfl rfl (by
          simp only [field, AV.int.injEq, true_and]
          have h1 := hr 2; have h2 := hr 3; have h3 := hr 4; have h4 := hr 5; have h5 := hr 6; have h6 := hr 7; have h7 := hr 8
          have g1 := hr 9; have g2 := hr 10; have g3 := hr 11; have g4 := hr 12; have g5 := hr 13; have g6 := hr 14; have g7 := hr 15
          simp
          omega)

def withOk (f v : Int) : Bool := decide (0 ≤ f ∧ f < 9 ∧ (1 < f ∨ v < 4294967296))
def withR (r : Nat → Int) (f v : Int) : Nat → Int := fun i =>
  if withOk f v then (if (i : Int) = place f then v % 4294967296 else if 1 < f ∧ (i : Int) = place f + 1 then v / 4294967296 else r i) else 0

theorem with_run (r : Nat → Int) (f v : Int) (hv : 0 ≤ v ∧ v < 18446744073709551616) (L : List AObj) (hw : WFL L) :
    ACall Try.prog 17 [RA r, .int .i64 f, .int .u64 v] L (Is (.tup [RA (withR r f v), .bool (withOk f v)]) L) := by
  refine ACall.walk (by kernel_rfl) Try.func17 rfl rfl rfl rfl [] (by kernel_rfl) kp17 100 fun c hP hn hL => ?_
  by_cases hf : f < 0 ∨ 9 ≤ f
  · simp [Try.f17, RA, RL]
    refine AOps.callIs hP hn rfl [] 100 (place_run f _ (by simp [hw.append_closed])) (by simp) (by simp <;> rfl) (by kernel_rfl) ?_
    simp [place, hf]
    exact AGo.ret_isM hP Try.func17 hL hw (by simp [Try.f17]; rfl) rfl rfl (by
      have e : withOk f v = false := by simp [withOk]; omega
      simp [RA, RL, withR, e])
  · rcases cases_f (f := f) (by omega) (by omega) with rfl | rfl | rfl | rfl | rfl | rfl | rfl | rfl | rfl
    iterate 2
      · simp [Try.f17, RA, RL]
        refine AOps.callIs hP hn rfl [] 100 (place_run _ _ (by simp [hw.append_closed])) (by simp) (by simp <;> rfl) (by kernel_rfl) ?_
        simp [place]
        refine AOps.callIs hP hn rfl [] 100 (hi_run _ hv _ (by simp [hw.append_closed])) (by simp) (by simp <;> rfl) (by kernel_rfl) ?_
        by_cases hv2 : v / 4294967296 = 0
        · simp [hv2]
          refine AOps.callIs hP hn rfl [] 100 (lo_run _ _ (by simp [hw.append_closed])) (by simp) (by simp <;> rfl) (by kernel_rfl) ?_
          simp
          exact AGo.ret_isM hP Try.func17 hL hw (by simp [Try.f17]; rfl) rfl rfl (by
            have e : ∀ f : Int, 0 ≤ f → f < 9 → withOk f v = true := by intro f h1 h2; simp [withOk]; omega
            simp [RA, RL, withR, e, place])
        · simp [hv2]
          exact AGo.ret_isM hP Try.func17 hL hw (by simp [Try.f17]; rfl) rfl rfl (by
            have e : ∀ f : Int, f < 2 → withOk f v = false := by intro f h1; simp [withOk]; omega
            simp [RA, RL, withR, e, place])
    iterate 7
      · simp [Try.f17, RA, RL]
        refine AOps.callIs hP hn rfl [] 100 (place_run _ _ (by simp [hw.append_closed])) (by simp) (by simp <;> rfl) (by kernel_rfl) ?_
        simp [place]
        refine AOps.callIs hP hn rfl [] 100 (lo_run _ _ (by simp [hw.append_closed])) (by simp) (by simp <;> rfl) (by kernel_rfl) ?_
        simp
        refine AOps.callIs hP hn rfl [] 100 (hi_run _ hv _ (by simp [hw.append_closed])) (by simp) (by simp <;> rfl) (by kernel_rfl) ?_
        simp
        exact AGo.ret_isM hP Try.func17 hL hw (by simp [Try.f17]; rfl) rfl rfl (by
          simp [RA, RL, withR, withOk, place])

end Go.Proofs.Ytpneikbihcoaaaa.Vm

/- Bytes read as a record: what the two functions give. -/
import Derived.Test.YtpneikbihcoaaaaRec4
open Go Go.Proofs Go.Proofs.Ytpneikbihcoaaaa
namespace Go.Proofs.Ytpneikbihcoaaaa.Vm
set_option linter.unusedVariables false
set_option linter.unusedSimpArgs false

/-- A text's byte. -/
def byt (s : ByteArray) (j : Nat) : UInt8 := (s.data[j]?).getD 0
theorem byt_get {s : ByteArray} {j : Nat} (h : j < s.size) : s.data[j]? = some (byt s j) := by
  have h' : j < s.data.size := h
  unfold byt
  rw [Array.getElem?_eq_getElem h']
  rfl
theorem byt_lt (s : ByteArray) (j : Nat) : 0 ≤ ((byt s j).toNat : Int) ∧ ((byt s j).toNat : Int) < 256 := by
  have := (byt s j).toNat_lt
  omega

/-- A text's word. -/
def wd (s : ByteArray) (j : Nat) : Int := (byt s (4 * j)).toNat + 256 * (byt s (4 * j + 1)).toNat + 65536 * (byt s (4 * j + 2)).toNat + 16777216 * (byt s (4 * j + 3)).toNat
theorem wd_ok (s : ByteArray) (j : Nat) : 0 ≤ wd s j ∧ wd s j < 4294967296 := by
  have h0 := byt_lt s (4 * j); have h1 := byt_lt s (4 * j + 1); have h2 := byt_lt s (4 * j + 2); have h3 := byt_lt s (4 * j + 3)
  unfold wd; omega

def readR (s : ByteArray) : Nat → Int := fun j => if s.size = 64 then wd s j else 0
def readE (s : ByteArray) : Int := if s.size < 64 then 4 else if 64 < s.size then 5 else 0

theorem RL_congr {r r' : Nat → Int} (h : ∀ j, j < 16 → r j = r' j) : RL r = RL r' := by
  simp only [RL, h _ (by omega : 0 < 16), h _ (by omega : 1 < 16), h _ (by omega : 2 < 16), h _ (by omega : 3 < 16), h _ (by omega : 4 < 16), h _ (by omega : 5 < 16), h _ (by omega : 6 < 16), h _ (by omega : 7 < 16),
    h _ (by omega : 8 < 16), h _ (by omega : 9 < 16), h _ (by omega : 10 < 16), h _ (by omega : 11 < 16), h _ (by omega : 12 < 16), h _ (by omega : 13 < 16), h _ (by omega : 14 < 16), h _ (by omega : 15 < 16)]

theorem RL_zero : RL (fun _ => 0) = [.int .u32 0, .int .u32 0, .int .u32 0, .int .u32 0, .int .u32 0, .int .u32 0, .int .u32 0, .int .u32 0, .int .u32 0, .int .u32 0, .int .u32 0, .int .u32 0, .int .u32 0, .int .u32 0, .int .u32 0, .int .u32 0] := rfl

theorem i64_id {n : Int} (h1 : -9223372036854775808 ≤ n) (h2 : n < 9223372036854775808) : (n + 9223372036854775808) % 18446744073709551616 - 9223372036854775808 = n := by omega

/-- The word so far, read from its last byte on. -/
def pn (s : ByteArray) (i : Nat) : Nat → Int
  | 0 => 0
  | m + 1 => 256 * pn s i m + (byt s (4 * i + (3 - m))).toNat

theorem pn_lt (s : ByteArray) (i m : Nat) (hm : m ≤ 4) : 0 ≤ pn s i m ∧ pn s i m < 4294967296 ∧ (m < 4 → pn s i m < 16777216) := by
  have h0 := byt_lt s (4 * i); have h1 := byt_lt s (4 * i + 1); have h2 := byt_lt s (4 * i + 2); have h3 := byt_lt s (4 * i + 3)
  rcases (by omega : m = 0 ∨ m = 1 ∨ m = 2 ∨ m = 3 ∨ m = 4) with rfl | rfl | rfl | rfl | rfl <;> simp [pn] <;> omega
theorem pn_wd (s : ByteArray) (i : Nat) : pn s i 4 = wd s i := by simp [pn, wd]; omega

/-- The first words of a text. -/
def rr (s : ByteArray) (i : Nat) : Nat → Int := fun j => if j < i then wd s j else 0

theorem refRead_run (s : ByteArray) (L : List AObj) (hw : WFL L) : ACall Try.prog 29 [.str s] L (Is (.tup [RA (readR s), .int .i64 (readE s)]) L) := by
  refine ACall.walk (by kernel_rfl) Try.func29 rfl rfl rfl rfl [] (by kernel_rfl) kp29 100 fun c hP hn hL => ?_
  by_cases h1 : s.size < 64
  · have h1' : (s.size : Int) < 64 := by omega
    simp [Try.f29, h1']
    exact AGo.ret_isM hP Try.func29 hL hw (by simp [Try.f29]; rfl) rfl rfl (by simp [RA, readE, h1]; rw [← RL_zero]; exact RL_congr fun j _ => by simp [readR]; omega)
  · by_cases h2 : 64 < s.size
    · have h1' : ¬ (s.size : Int) < 64 := by omega
      have h2' : (64 : Int) < (s.size : Int) := by omega
      simp [Try.f29, h1', h2']
      exact AGo.ret_isM hP Try.func29 hL hw (by simp [Try.f29]; rfl) rfl rfl (by simp [RA, readE, h1, h2]; rw [← RL_zero]; exact RL_congr fun j _ => by simp [readR]; omega)
    · have hs : s.size = 64 := by omega
      simp [Try.f29, hs]
      refine AGo.loopN [0, 2, 4, 5] (fun i => [.str s, .addr L.length 0 0 [] 0, .addr (L.length + 1) 0 0 [] 0, .int .i64 i])
        (fun i => L ++ [⟨0, 16, false, false, [.agg (RL fun _ => 0)]⟩, ⟨0, 16, false, false, [.agg (RL (rr s i))]⟩]) 16 (by simp) (by simp; exact ⟨RL_zero.symm, RL_zero.symm.trans (RL_congr fun j _ => by simp [rr])⟩) (fun i hi ih => ?_) ?_
      · refine AGo.go hP hn rfl [] kp29 100 (by kernel_rfl) ?_
        have hi' : (i : Int) < 16 := by omega
        simp [hi']
        refine AGo.loopN [0, 2, 4, 5, 6, 7] (fun m => [.str s, .addr L.length 0 0 [] 0, .addr (L.length + 1) 0 0 [] 0, .int .i64 i, .int .u32 (pn s i m), .int .i64 (3 - m)])
          (fun m => L ++ [⟨0, 16, false, false, [.agg (RL fun _ => 0)]⟩, ⟨0, 16, false, false, [.agg (RL (rr s i))]⟩]) 4 (by simp [pn]) (by simp) (fun m hm ih2 => ?_) ?_
        · refine AGo.go hP hn rfl [] kp29 100 (by kernel_rfl) ?_
          have hpn := pn_lt s i m (by omega)
          have hb := byt_get (s := s) (j := 4 * i + (3 - m)) (by omega)
          have hbl := byt_lt s (4 * i + (3 - m))
          have w1 : IntKind.i64.wrap (4 * (i : Int)) = 4 * i := wrap_id (by omega) (by omega)
          have w2 : IntKind.i64.wrap (4 * (i : Int) + (3 - m)) = 4 * i + (3 - m) := wrap_id (by omega) (by omega)
          have w3 : IntKind.i64.wrap (3 - (m : Int) - 1) = 3 - (m + 1) := by rw [wrap_id (by omega) (by omega)]; omega
          have hm3 : (m : Int) ≤ 3 := by omega
          have h0 : (0 : Int) ≤ 4 * i + (3 - m) := by omega
          have htn : (4 * (i : Int) + (3 - m)).toNat = 4 * i + (3 - m) := by omega
          have w4 : IntKind.u32.wrap (256 * pn s i m) = 256 * pn s i m := wrap_id32 (by omega) (by omega)
          have w5 : IntKind.u32.wrap ((byt s (4 * i + (3 - m))).toNat : Int) = (byt s (4 * i + (3 - m))).toNat := wrap_id32 (by omega) (by omega)
          have w6 : IntKind.u32.wrap (256 * pn s i m + (byt s (4 * i + (3 - m))).toNat) = pn s i (m + 1) := wrap_id32 (by omega) (by omega)
          simp [-wrap_i64, -wrap_u32, w1, w2, w3, w4, w5, w6, hm3, h0, htn, hb]
          exact AGo.again ih2 (by simp) rfl
        · refine AGo.go hP hn rfl [] kp29 100 (by kernel_rfl) ?_
          have ht := RL_take (rr s i) i (by omega)
          have hpw := pn_wd s i
          have hset : RL (fun j => if j = i then wd s i else rr s i j) = RL (rr s (i + 1)) := RL_congr fun j _ => by
            simp only [rr]
            by_cases hj : j = i
            · subst hj; simp
            · rw [if_neg hj]
              by_cases hj2 : j < i
              · rw [if_pos hj2, if_pos (by omega)]
              · rw [if_neg hj2, if_neg (by omega)]
          have w1 : IntKind.i64.wrap ((i : Int) + 1) = i + 1 := wrap_id (by omega) (by omega)
          simp [-wrap_i64, w1, hi', ht, RL_get _ i hi, RL_set _ i _ hi, hpw, hset]
          exact AGo.again ih (by simp) rfl
      · refine AGo.go hP hn rfl [] kp29 100 (by kernel_rfl) ?_
        simp
        exact AGo.ret_isM hP Try.func29 hL hw (by simp [Try.f29]; rfl) rfl rfl (by
          simp [RA, readE, hs]
          exact RL_congr fun j hj => by simp [readR, rr, hs, hj])

/-- The first bytes of a word. -/
def pw (s : ByteArray) (j : Nat) : Nat → Int
  | 0 => 0
  | m + 1 => pw s j m + (byt s (4 * j + m)).toNat * 256 ^ m
theorem pw_wd (s : ByteArray) (j : Nat) : pw s j 4 = wd s j := by simp [pw, wd]; omega
theorem pw_lt (s : ByteArray) (j m : Nat) (hm : m ≤ 4) : 0 ≤ pw s j m ∧ pw s j m < 256 ^ m ∧ pw s j m < 4294967296 := by
  have h0 := byt_lt s (4 * j); have h1 := byt_lt s (4 * j + 1); have h2 := byt_lt s (4 * j + 2); have h3 := byt_lt s (4 * j + 3)
  rcases (by omega : m = 0 ∨ m = 1 ∨ m = 2 ∨ m = 3 ∨ m = 4) with rfl | rfl | rfl | rfl | rfl <;> simp [pw] <;> omega
/-- The words of the first bytes. -/
def ww (s : ByteArray) (i : Nat) : Nat → Int := fun j => pw s j (min 4 (i - 4 * j))

theorem or_low (x b : Nat) (t : Nat) (hx : x < 2 ^ (8 * t)) : x ||| b * 2 ^ (8 * t) = x + b * 2 ^ (8 * t) := by
  have := Nat.two_pow_add_eq_or_of_lt (i := 8 * t) hx b
  rw [Nat.or_comm, Nat.mul_comm, ← this, Nat.add_comm]

theorem read_run (s : ByteArray) (L : List AObj) (hw : WFL L) : ACall Try.prog 28 [.str s] L (Is (.tup [RA (readR s), .int .i64 (readE s)]) L) := by
  refine ACall.walk (by kernel_rfl) Try.func28 rfl rfl rfl rfl [] (by kernel_rfl) kp28 100 fun c hP hn hL => ?_
  by_cases h1 : s.size < 64
  · have h1' : (s.size : Int) < 64 := by omega
    simp [Try.f28, h1']
    exact AGo.ret_isM hP Try.func28 hL hw (by simp [Try.f28]; rfl) rfl rfl (by simp [RA, readE, h1]; rw [← RL_zero]; exact RL_congr fun j _ => by simp [readR]; omega)
  · by_cases h2 : 64 < s.size
    · have h1' : ¬ (s.size : Int) < 64 := by omega
      have h2' : (64 : Int) < (s.size : Int) := by omega
      simp [Try.f28, h1', h2']
      exact AGo.ret_isM hP Try.func28 hL hw (by simp [Try.f28]; rfl) rfl rfl (by simp [RA, readE, h1, h2]; rw [← RL_zero]; exact RL_congr fun j _ => by simp [readR]; omega)
    · have hs : s.size = 64 := by omega
      simp [Try.f28, hs]
      refine AGo.loopN [2, 17, 18, 19] (fun i => [.addr L.length 0 0 [] 0, .own (L.length + 1) 0 0 64, .int .i64 64, .int .i64 i])
        (fun i => L ++ [⟨0, 16, false, false, [.agg (RL (ww s i))]⟩, ⟨0, 1, false, false, strBytes s⟩]) 64 (by simp) (by simp; exact RL_zero.symm.trans (RL_congr fun j _ => by simp [ww, pw])) (fun i hi ih => ?_) ?_
      · refine AGo.go hP hn rfl [] kp28 100 (by kernel_rfl) ?_
        obtain ⟨q, t, rfl, ht⟩ : ∃ q t, i = 4 * q + t ∧ t < 4 := ⟨i / 4, i % 4, by omega, by omega⟩
        have hi' : ((4 * q + t : Nat) : Int) < 64 := by omega
        have w1 : IntKind.i64.wrap (((4 * q + t : Nat) : Int) + 1) = ((4 * q + t + 1 : Nat) : Int) := by rw [wrap_id (by omega) (by omega)]; omega
        have hdiv : ((4 * q + t : Nat) : Int).tdiv 4 = q := by rw [Int.tdiv_eq_ediv_of_nonneg (by omega)]; omega
        have hmod : ((4 * q + t : Nat) : Int).tmod 4 = t := by rw [Int.tmod_eq_emod_of_nonneg (by omega)]; omega
        have w2 : IntKind.i64.wrap (q : Int) = q := wrap_id (by omega) (by omega)
        have w3 : IntKind.i64.wrap (8 * (t : Int)) = 8 * t := wrap_id (by omega) (by omega)
        have hb := byt_get (s := s) (j := 4 * q + t) (by omega)
        have hbl := byt_lt s (4 * q + t)
        have htk := RL_take (ww s (4 * q + t)) q (by omega)
        have hq : (q : Int) < 16 := by omega
        have hsh : ¬ (8 * (t : Int) < 0) := by omega
        have hmin : min (8 * (t : Int)).toNat 32 = 8 * t := by omega
        have hw1 : ww s (4 * q + t) q = pw s q t := by simp only [ww]; rw [show min 4 (4 * q + t - 4 * q) = t by omega]
        have hw2 : RL (fun j => if j = q then pw s q (t + 1) else ww s (4 * q + t) j) = RL (ww s (4 * q + t + 1)) := RL_congr fun j _ => by
          by_cases hj : j = q
          · subst hj; rw [if_pos rfl]; simp only [ww]; rw [show min 4 (4 * j + t + 1 - 4 * j) = t + 1 by omega]
          · rw [if_neg hj]; simp only [ww]
            rcases Nat.lt_or_gt_of_ne hj with h | h
            · rw [show min 4 (4 * q + t - 4 * j) = min 4 (4 * q + t + 1 - 4 * j) by omega]
            · rw [show min 4 (4 * q + t - 4 * j) = min 4 (4 * q + t + 1 - 4 * j) by omega]
        have hor : IntKind.u32.wrap (((pw s q t % 4294967296).toNat ||| (IntKind.u32.wrap (IntKind.u32.wrap ((byt s (4 * q + t)).toNat : Int) * 2 ^ (8 * t)) % 4294967296).toNat : Nat) : Int) = pw s q (t + 1) := by
          have hp := pw_lt s q t (by omega)
          have hp2 := pw_lt s q (t + 1) (by omega)
          rw [wrap_id32 hbl.1 (by omega)]
          obtain ⟨x, hx⟩ := Int.eq_ofNat_of_zero_le hp.1
          have hsh2 : ((byt s (4 * q + t)).toNat : Int) * 2 ^ (8 * t) < 4294967296 ∧ 0 ≤ ((byt s (4 * q + t)).toNat : Int) * 2 ^ (8 * t) := by
            rcases (by omega : t = 0 ∨ t = 1 ∨ t = 2 ∨ t = 3) with rfl | rfl | rfl | rfl <;> simp at hbl ⊢ <;> omega
          have hpt : (256 : Int) ^ t = ((2 ^ (8 * t) : Nat) : Int) := by
            rcases (by omega : t = 0 ∨ t = 1 ∨ t = 2 ∨ t = 3) with rfl | rfl | rfl | rfl <;> rfl
          have hpt2 : (2 : Int) ^ (8 * t) = ((2 ^ (8 * t) : Nat) : Int) := by
            rcases (by omega : t = 0 ∨ t = 1 ∨ t = 2 ∨ t = 3) with rfl | rfl | rfl | rfl <;> rfl
          rw [wrap_id32 hsh2.2 hsh2.1]
          have hx2 : x < 2 ^ (8 * t) := by have := hp.2.1; rw [hx, hpt] at this; exact_mod_cast this
          have e1 : (pw s q t % 4294967296).toNat = x := by omega
          have e2 : (((byt s (4 * q + t)).toNat : Int) * 2 ^ (8 * t) % 4294967296).toNat = (byt s (4 * q + t)).toNat * 2 ^ (8 * t) := by
            have : ((byt s (4 * q + t)).toNat : Int) * 2 ^ (8 * t) = (((byt s (4 * q + t)).toNat * 2 ^ (8 * t) : Nat) : Int) := by rw [hpt2]; exact (Int.natCast_mul _ _).symm
            rw [Int.emod_eq_of_lt hsh2.2 hsh2.1, this]; rfl
          rw [e1, e2, or_low x _ t hx2]
          have e3 : ((x + (byt s (4 * q + t)).toNat * 2 ^ (8 * t) : Nat) : Int) = pw s q (t + 1) := by
            rw [pw, hx, hpt, Int.natCast_add, Int.natCast_mul]
          rw [e3, wrap_id32 hp2.1 hp2.2.2]
        have hor2 : IntKind.u32.wrap (((BitVec.ofInt 32 (pw s q t) ||| BitVec.ofInt 32 (IntKind.u32.wrap (IntKind.u32.wrap ((byt s (4 * q + t)).toNat : Int) * 2 ^ (8 * t)))).toNat : Nat) : Int) = pw s q (t + 1) := by
          rw [BitVec.toNat_or, BitVec.toNat_ofInt, BitVec.toNat_ofInt]
          exact hor
        generalize hii : 4 * q + t = i at *
        have hq' : q < 16 := by omega
        simp [-wrap_i64, -wrap_u32, hi', w1, w2, w3, hdiv, hmod, hb, htk, hq, RL_get _ q hq', hw1, hsh, hmin, RL_set _ q _ hq', hw2]
        exact AGo.again ih (by simp) (Eq.trans (congrArg (fun v => L ++ [⟨0, 16, false, false, [.agg (RL fun j => if j = q then v else ww s i j)]⟩, ⟨0, 1, false, false, strBytes s⟩]) hor2) (by simp [hw2]))
      · refine AGo.go hP hn rfl [] kp28 100 (by kernel_rfl) ?_
        simp
        exact AGo.ret_isM hP Try.func28 hL hw (by simp [Try.f28]; rfl) rfl rfl (by
          simp [RA, readE, hs]
          exact RL_congr fun j hj => by simp [readR, ww, hs, show 4 ≤ 64 - 4 * j by omega, pw_wd])

end Go.Proofs.Ytpneikbihcoaaaa.Vm

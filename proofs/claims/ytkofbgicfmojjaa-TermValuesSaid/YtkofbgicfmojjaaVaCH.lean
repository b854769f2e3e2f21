/- Plain: words by their bits. -/
import Derived.Test.YtkofbgicfmojjaaVaCG
set_option linter.unusedSimpArgs false
set_option linter.unusedVariables false
set_option linter.unusedSectionVars false
namespace Go.Va

theorem bitN_test {n i : Nat} : bitN n i = (n.testBit i).toNat := by
  unfold bitN
  rw [Nat.testBit_eq_decide_div_mod_eq]
  have := Nat.mod_lt (n / 2 ^ i) (show 0 < 2 by decide)
  by_cases h : n / 2 ^ i % 2 = 1
  · simp [h]
  · have : n / 2 ^ i % 2 = 0 := by omega
    simp [this]

theorem hor_bits {n : Nat} (hn : n < 4294967296) : ∀ k, k ≤ 32 → hor (bitN n) k = n / 2 ^ (32 - k)
  | 0, _ => by
    simp only [hor]
    exact (Nat.div_eq_of_lt hn).symm
  | k + 1, h => by
    have ih := hor_bits hn k (by omega)
    have e : 32 - k = (31 - k) + 1 := by omega
    have e2 : 32 - (k + 1) = 31 - k := by omega
    simp only [hor, ih, bitN, e2]
    rw [e, Nat.pow_succ, ← Nat.div_div_eq_div_mul]
    omega

theorem hor_congr {f g : Nat → Nat} (h : ∀ i, i < 32 → f i = g i) : ∀ k, hor f k = hor g k
  | 0 => rfl
  | k + 1 => by simp only [hor, hor_congr h k, h (31 - k) (by omega)]

theorem hor_word {f : Nat → Nat} {n : Nat} (hn : n < 4294967296) (h : ∀ i, i < 32 → f i = bitN n i) : hor f 32 = n := by
  rw [hor_congr h, hor_bits hn 32 (Nat.le_refl _)]; simp

theorem both_or {a b : Nat} (ha : a < 4294967296) (hb : b < 4294967296) : hor (sumP a b 0 1 1) 32 = a ||| b :=
  hor_word (Nat.or_lt_two_pow (n := 32) ha hb) fun i _ => by
    unfold sumP
    rw [bitN_test, bitN_test, bitN_test, Nat.testBit_or]
    cases a.testBit i <;> cases b.testBit i <;> rfl
theorem both_and {a b : Nat} (ha : a < 4294967296) (hb : b < 4294967296) : hor (sumP a b 0 0 1) 32 = a &&& b :=
  hor_word (Nat.and_lt_two_pow (n := 32) a hb) fun i _ => by
    unfold sumP
    rw [bitN_test, bitN_test, bitN_test, Nat.testBit_and]
    cases a.testBit i <;> cases b.testBit i <;> rfl
theorem both_xor {a b : Nat} (ha : a < 4294967296) (hb : b < 4294967296) : hor (sumP a b 0 1 0) 32 = a ^^^ b :=
  hor_word (Nat.xor_lt_two_pow (n := 32) ha hb) fun i _ => by
    unfold sumP
    rw [bitN_test, bitN_test, bitN_test, Nat.testBit_xor]
    cases a.testBit i <;> cases b.testBit i <;> rfl

end Go.Va

/- The eight bytes of a number and back: plain. -/
import Derived.Test.YtlnjemdnmndnfaaWire2
import Derived.Test.YtlnjemdnmndnfaaRead1
namespace Go.Proofs.Ytlnjemdnmndnfaa.Wire
set_option linter.unusedVariables false
set_option linter.unusedSimpArgs false
open Go.RowKit K

theorem beN_succ (n v : Nat) : beN (n + 1) v = beN n (v / 256) ++ [UInt8.ofNat (v % 256)] := by
  unfold beN
  rw [List.range_succ, List.map_append]
  congr 1
  · apply List.map_congr_left
    intro j hj
    have hj : j < n := by simpa using hj
    congr 1
    unfold byteAt
    rw [show 8 * (n + 1 - 1 - j) = 8 + 8 * (n - 1 - j) by omega, Nat.pow_add, ← Nat.div_div_eq_div_mul]
  · simp [byteAt]
theorem beVal_beN (n v : Nat) (h : v < 256 ^ n) : beVal (beN n v) = v := by
  induction n generalizing v with
  | zero => simp at h; subst h; rfl
  | succ n ih =>
    rw [beN_succ, beVal_snoc, ih (v / 256) (by rw [Nat.pow_succ] at h; omega)]
    have : (UInt8.ofNat (v % 256)).toNat = v % 256 := by simp [UInt8.toNat_ofNat]
    omega
theorem beN_beVal (l : List UInt8) : beN l.length (beVal l) = l := by
  have h : ∀ n (l : List UInt8), l.length = n → beN n (beVal l) = l := by
    intro n
    induction n with
    | zero => intro l hl; rw [List.eq_nil_of_length_eq_zero hl]; rfl
    | succ n ih =>
      intro l hl
      obtain ⟨l', c, rfl⟩ : ∃ l' c, l = l' ++ [c] := ⟨l.dropLast, l.getLast (by rintro rfl; simp at hl), (List.dropLast_concat_getLast _).symm⟩
      have hc := c.toNat_lt
      rw [beN_succ, beVal_snoc, show (beVal l' * 256 + c.toNat) / 256 = beVal l' by omega, show (beVal l' * 256 + c.toNat) % 256 = c.toNat by omega, ih l' (by simpa using hl)]
      simp
  exact h _ l rfl
/-- the signed number of eight bytes. -/
def rd8 (l : List UInt8) : Int := wrap64 (beVal l)
theorem rd8_be8 (x : Int) (h1 : -9223372036854775808 ≤ x) (h2 : x ≤ 9223372036854775807) : rd8 (be8 x) = x := by
  unfold rd8 be8
  rw [beVal_beN 8 _ (by have : (256 : Nat) ^ 8 = 18446744073709551616 := by decide
                        omega)]
  unfold wrap64
  omega
theorem be8_rd8 (l : List UInt8) (h : l.length = 8) : be8 (rd8 l) = l := by
  have hlt := beVal_lt l
  rw [h] at hlt
  have e8 : (256 : Nat) ^ 8 = 18446744073709551616 := by decide
  unfold be8 rd8
  have : (wrap64 (beVal l : Int) % 18446744073709551616).toNat = beVal l := by unfold wrap64; omega
  rw [this, ← h]
  exact beN_beVal l
theorem rd8_range (l : List UInt8) : -9223372036854775808 ≤ rd8 l ∧ rd8 l ≤ 9223372036854775807 := by unfold rd8 wrap64; omega
end Go.Proofs.Ytlnjemdnmndnfaa.Wire

/- The statements over one text: Forges, Pieces; the closed one: Table. -/
import Derived.Test.YtmdjkpmjpngkdaaE1x
namespace Go.Proofs.Ytmdjkpmjpngkdaa
set_option linter.unusedVariables false
set_option linter.unusedSimpArgs false
open Go.RowKit K

theorem run_append (x : BitVec 32) (a b : List UInt8) : run x (a ++ b) = run (run x a) b := List.foldl_append
theorem more_append (x : BitVec 32) (s t st : ByteArray) (h : st.data.toList = s.data.toList ++ t.data.toList) : more x st = more (more x s) t := by
  rw [more, more, more, BitVec.not_not, h, run_append]
theorem T_unbit (x : BitVec 32) : bit (unbit x) = x := by
  unfold unbit
  by_cases h : x.getLsbD 31 = true
  · rw [if_pos h, bit]
    have h0 : ((x ^^^ poly) <<< 1 ||| 1#32).getLsbD 0 = true := by rw [BitVec.getLsbD_or]; simp
    rw [if_pos h0]
    have hs : ((x ^^^ poly) <<< 1 ||| 1#32) >>> 1 = x ^^^ poly := by
      apply BitVec.eq_of_getLsbD_eq
      intro i hi
      rw [BitVec.getLsbD_ushiftRight, BitVec.getLsbD_or, BitVec.getLsbD_shiftLeft]
      have h1 : (1#32).getLsbD (1 + i) = false := by
        rw [BitVec.getLsbD_ofNat, Nat.testBit_lt_two_pow (show 1 < 2 ^ (1 + i) from Nat.one_lt_two_pow (by omega))]
        simp
      rw [h1]
      by_cases h31 : i = 31
      · subst h31
        rw [BitVec.getLsbD_xor, h]
        decide
      · simp [show 1 + i < 32 by omega]
    rw [hs, BitVec.xor_assoc, BitVec.xor_self, BitVec.xor_zero]
  · rw [if_neg h, bit]
    have h0 : ¬ (x <<< 1).getLsbD 0 = true := by rw [BitVec.getLsbD_shiftLeft]; simp
    rw [if_neg h0]
    apply BitVec.eq_of_getLsbD_eq
    intro i hi
    rw [BitVec.getLsbD_ushiftRight, BitVec.getLsbD_shiftLeft]
    by_cases h31 : i = 31
    · subst h31
      simp only [Bool.not_eq_true] at h
      rw [h]; decide
    · simp [show 1 + i < 32 by omega]
theorem bits_unbits (n : Nat) : ∀ m, n ≤ m → ∀ x, bits8 n (unbits m x) = unbits (m - n) x := by
  induction n with
  | zero => intro m _ x; rfl
  | succ n ih =>
    intro m hm x
    rw [bits8, ih m (by omega), show m - n = (m - (n + 1)) + 1 by omega, unbits, T_unbit]
theorem T_U (x : BitVec 32) : T (U x) = x := bits_unbits 8 8 (Nat.le_refl _) x
theorem T4_back (x : BitVec 32) : zer 4 (back4 4 x) = x := by
  show T (T (T (T (U (U (U (U x))))))) = x
  rw [T_U, T_U, T_U, T_U]
/-- four bytes, taken in one by one, are a register of them, taken in at once. -/
theorem take4 (r q : BitVec 32) : run r (fixL q) = zer 4 (r ^^^ q) := by
  have h1 : ∀ (y : BitVec 32), BitVec.ofNat 32 (UInt8.ofNat (y.toNat % 256)).toNat = BitVec.ofNat 32 (y.toNat % 256) := by
    intro y
    rw [UInt8.toNat_ofNat']
    congr 1
    omega
  have step : ∀ (r y : BitVec 32), T (r ^^^ y) = T (r ^^^ BitVec.ofNat 32 (y.toNat % 256)) ^^^ y >>> 8 := by
    intro r y
    have h := T_split y
    rw [T_xor, T_xor, ← h, BitVec.xor_assoc]
  show take (take (take (take r _) _) _) _ = T (T (T (T (r ^^^ q))))
  unfold take
  rw [h1, h1, h1, h1, step r q, step _ (q >>> 8), step _ (q >>> 8 >>> 8), step _ (q >>> 8 >>> 8 >>> 8)]
  simp only [← BitVec.shiftRight_add]
  have h32 : q >>> 32 = 0#32 := shr_end q 32 (Nat.le_refl _)
  rw [show 8 + 8 = 16 from rfl, show 16 + 8 = 24 from rfl, show 24 + 8 = 32 from rfl, h32, BitVec.xor_zero]
theorem fix_gives (x y : BitVec 32) : more x (fixS (fixR x y)) = y := by
  show ~~~ (run (~~~ x) (fixL (fixR x y))) = y
  rw [take4, fixR]
  have : ~~~ x ^^^ ~~~ (back4 4 (~~~ y) ^^^ x) = back4 4 (~~~ y) := by
    rw [show ~~~ (back4 4 (~~~ y) ^^^ x) = back4 4 (~~~ y) ^^^ ~~~ x from (fix_eq x y).symm]
    rw [BitVec.xor_comm, BitVec.xor_assoc, BitVec.xor_self, BitVec.xor_zero]
  rw [this, T4_back, BitVec.not_not]
end Go.Proofs.Ytmdjkpmjpngkdaa

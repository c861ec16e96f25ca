/- The four bytes that make one sum another: the program's Fix. -/
import Derived.Test.YtmdjkpmjpngkdaaC4x
namespace Go.Proofs.Ytmdjkpmjpngkdaa
set_option linter.unusedVariables false
set_option linter.unusedSimpArgs false
open Go.RowKit K

theorem unbit_bit (x : BitVec 32) : unbit (bit x) = x := by
  unfold bit
  by_cases h : x.getLsbD 0 = true
  · rw [if_pos h, unbit]
    have h31 : (x >>> 1 ^^^ poly).getLsbD 31 = true := by
      rw [BitVec.getLsbD_xor, BitVec.getLsbD_ushiftRight, BitVec.getLsbD_of_ge x 32 (by omega)]
      decide
    rw [if_pos h31, BitVec.xor_assoc, BitVec.xor_self, BitVec.xor_zero]
    apply BitVec.eq_of_getLsbD_eq
    intro i hi
    rw [BitVec.getLsbD_or, BitVec.getLsbD_shiftLeft, BitVec.getLsbD_ushiftRight]
    by_cases h0 : i = 0
    · subst h0; rw [h]; simp
    · have : (1#32).getLsbD i = false := by simp [BitVec.getLsbD_ofNat, hi, h0]
      rw [this]
      simp [hi, show 1 + (i - 1) = i by omega]
      intro e; omega
  · rw [if_neg h, unbit]
    have h31 : ¬ (x >>> 1).getLsbD 31 = true := by
      rw [BitVec.getLsbD_ushiftRight, BitVec.getLsbD_of_ge x 32 (by omega)]
      decide
    rw [if_neg h31]
    apply BitVec.eq_of_getLsbD_eq
    intro i hi
    rw [BitVec.getLsbD_shiftLeft, BitVec.getLsbD_ushiftRight]
    by_cases h0 : i = 0
    · subst h0
      simp only [Bool.not_eq_true] at h
      rw [h]; simp
    · simp [hi, show 1 + (i - 1) = i by omega]
      intro e; omega
theorem unbit_bits (n : Nat) (x : BitVec 32) : unbit (bits8 (n + 1) x) = bits8 n x := unbit_bit _
theorem unbits_bits (n m : Nat) (x : BitVec 32) (h : n ≤ m) : unbits n (bits8 m x) = bits8 (m - n) x := by
  induction n with
  | zero => rfl
  | succ n ih =>
    rw [unbits, ih (by omega), show m - n = (m - (n + 1)) + 1 by omega, unbit_bits]
theorem U_T (x : BitVec 32) : U (T x) = x := unbits_bits 8 8 x (Nat.le_refl _)

/-- by the highest byte of a table's value: which. -/
def byN (k : Nat) : List Nat := (List.range k).foldl (fun a i => a.set (T (BitVec.ofNat 32 i) >>> 24).toNat i) (List.replicate 256 0)
def byT (k : Nat) : Array Value := ((byN k).map fun i : Nat => Value.int .i64 (i : Int)).toArray
theorem byN_length (k : Nat) : (byN k).length = 256 := by
  induction k with
  | zero => exact List.length_replicate
  | succ k ih =>
    unfold byN at ih ⊢
    rw [List.range_succ, List.foldl_append]
    simp only [List.foldl_cons, List.foldl_nil, List.length_set]
    exact ih
theorem byT_size (k : Nat) : (byT k).size = 256 := by simp [byT, byN_length]
theorem byT_succ (k : Nat) : byT (k + 1) = (byT k).setIfInBounds (T (BitVec.ofNat 32 k) >>> 24).toNat (.int .i64 k) := by
  unfold byT byN
  rw [List.range_succ, List.foldl_append]
  simp only [List.foldl_cons, List.foldl_nil, List.map_set, List.setIfInBounds_toArray]
set_option maxRecDepth 100000 in
theorem by_all : ((List.range 256).all fun v => match (byN 256)[v]? with | some i => decide (i < 256) && (T (BitVec.ofNat 32 i) >>> 24 == BitVec.ofNat 32 v) | none => false) = true := by decide +kernel
theorem by_at (v : Nat) (hv : v < 256) : ∃ i : Nat, i < 256 ∧ (byT 256)[v]? = some (.int .i64 i) ∧ T (BitVec.ofNat 32 i) >>> 24 = BitVec.ofNat 32 v := by
  have := List.all_eq_true.1 by_all v (by simpa using hv)
  split at this
  · rename_i i hi
    simp only [Bool.and_eq_true, decide_eq_true_eq, beq_iff_eq] at this
    exact ⟨i, this.1, by simp [byT, hi], this.2⟩
  · exact absurd this (by simp)
theorem top_lt (x : BitVec 32) : (x >>> 24).toNat < 256 := by
  have := x.isLt
  rw [BitVec.toNat_ushiftRight, Nat.shiftRight_eq_div_pow]
  omega
/-- a round of the program's Fix. -/
theorem fix_step (r : BitVec 32) (i : Nat) (hi : i < 256) (h : T (BitVec.ofNat 32 i) >>> 24 = BitVec.ofNat 32 (r >>> 24).toNat) : (r ^^^ T (BitVec.ofNat 32 i)) <<< 8 ||| BitVec.ofNat 32 i = U r := by
  have h24 : (r ^^^ T (BitVec.ofNat 32 i)) >>> 24 = 0#32 := by
    rw [BitVec.ushiftRight_xor_distrib, h, BitVec.ofNat_toNat, BitVec.setWidth_eq, BitVec.xor_self]
  have hor : (r ^^^ T (BitVec.ofNat 32 i)) <<< 8 ||| BitVec.ofNat 32 i = (r ^^^ T (BitVec.ofNat 32 i)) <<< 8 ^^^ BitVec.ofNat 32 i := by
    apply BitVec.eq_of_getLsbD_eq
    intro j hj
    rw [BitVec.getLsbD_or, BitVec.getLsbD_xor, BitVec.getLsbD_shiftLeft]
    by_cases h8 : j < 8
    · simp [h8]
    · have : (BitVec.ofNat 32 i).getLsbD j = false := by
        rw [BitVec.getLsbD_ofNat, Nat.testBit_lt_two_pow (Nat.lt_of_lt_of_le hi (Nat.pow_le_pow_right (n := 2) (by decide) (show 8 ≤ j by omega)))]
        simp
      simp [this]
  have hT : T ((r ^^^ T (BitVec.ofNat 32 i)) <<< 8 ^^^ BitVec.ofNat 32 i) = r := by
    rw [T_xor, T_low _ (fun j hj => by rw [BitVec.getLsbD_shiftLeft]; simp [hj])]
    have : ((r ^^^ T (BitVec.ofNat 32 i)) <<< 8) >>> 8 = r ^^^ T (BitVec.ofNat 32 i) := by
      apply BitVec.eq_of_getLsbD_eq
      intro j hj
      rw [BitVec.getLsbD_ushiftRight, BitVec.getLsbD_shiftLeft]
      by_cases h2 : 8 + j < 32
      · simp [h2]
      · have h3 : (r ^^^ T (BitVec.ofNat 32 i)).getLsbD j = false := by
          have := congrArg (fun x : BitVec 32 => x.getLsbD (j - 24)) h24
          simp only [BitVec.getLsbD_ushiftRight] at this
          rw [show 24 + (j - 24) = j by omega] at this
          rw [this]; simp
        rw [h3]; simp [h2]
    rw [this, BitVec.xor_assoc, BitVec.xor_self, BitVec.xor_zero]
  rw [hor]
  have := U_T ((r ^^^ T (BitVec.ofNat 32 i)) <<< 8 ^^^ BitVec.ofNat 32 i)
  rw [hT] at this
  exact this.symm
end Go.Proofs.Ytmdjkpmjpngkdaa

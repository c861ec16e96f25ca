/- The document's register: take, back. -/
import Derived.Test.YtmdjkpmjpngkdaaRows
import Derived.Test.YtmdjkpmjpngkdaaReg
namespace Go.Proofs.Ytmdjkpmjpngkdaa
set_option linter.unusedVariables false
set_option linter.unusedSimpArgs false
open Go.RowKit K

def bit (x : BitVec 32) : BitVec 32 := if x.getLsbD 0 then x >>> 1 ^^^ poly else x >>> 1
def bits8 : Nat → BitVec 32 → BitVec 32
  | 0, x => x
  | n + 1, x => bit (bits8 n x)
theorem u_byte (b : Nat) (h : b < 256) : (b : Int) = u (BitVec.ofNat 32 b) := by
  unfold u
  rw [BitVec.toNat_ofNat]
  omega
theorem bits8_succ (n : Nat) (x : BitVec 32) : bits8 (n + 1) x = bit (bits8 n x) := rfl
theorem u_odd {x : BitVec 32} (h : x.getLsbD 0 = true) : bits .and .u32 (u x) 1 = 1 := by rw [u_and1, h]; rfl
theorem u_even {x : BitVec 32} (h : ¬ x.getLsbD 0 = true) : bits .and .u32 (u x) 1 = 0 := by rw [u_and1, if_neg h]
set_option maxHeartbeats 400000 in
theorem take_any (w : World) (x y : BitVec 32) (b : Int) (hb : IntKind.u32.wrap b = u y) : Calls Try.prog 33 #[.int .u32 (u x), .int .u8 b] w fun e w' => e = .returned (.int .u32 (u (bits8 8 (x ^^^ y)))) ∧ w' = w := by
  go_enter Try.func33, Try.ntmps33
  go_wp2_with fail
  go_loopw [0, 5] (fun r i wr => ∃ k : Nat, k ≤ 8 ∧ i = .int .i64 k ∧ r = .int .u32 (u (bits8 k (x ^^^ y))) ∧ wr = w) (fun _ i _ => 8 - (intOf i).toNat)
  case atStart => exact ⟨0, Nat.zero_le _, rfl, rfl, rfl⟩
  case round =>
    obtain ⟨k, hk, rfl, rfl, rfl⟩ := hrel
    by_cases hlt : k < 8
    · have hlt' : (k : Int) < 8 := by omega
      by_cases hb0 : (bits8 k (x ^^^ y)).getLsbD 0 = true
      · have h1 := u_odd hb0
        have h2 := bits8_succ k (x ^^^ y)
        rw [bit, if_pos hb0] at h2
        have H2 := hide h2
        have HB := hide hb0
        clear h2 hb0
        go_wp2_with fail
        exact ⟨⟨k + 1, by omega, by go_num, by rw [H2.out], trivial⟩, by simp [intOf]; omega⟩
      · have h1 := u_even hb0
        have h2 := bits8_succ k (x ^^^ y)
        rw [bit, if_neg hb0] at h2
        have H2 := hide h2
        have HB := hide hb0
        clear h2 hb0
        go_wp2_with fail
        exact ⟨⟨k + 1, by omega, by go_num, by rw [H2.out], trivial⟩, by simp [intOf]; omega⟩
    · obtain rfl : k = 8 := by omega
      go_wp2_with fail
      go_ret
      exact ⟨rfl, rfl⟩
def unbit (x : BitVec 32) : BitVec 32 := if x.getLsbD 31 then (x ^^^ poly) <<< 1 ||| 1#32 else x <<< 1
def unbits : Nat → BitVec 32 → BitVec 32
  | 0, x => x
  | n + 1, x => unbit (unbits n x)
theorem unbits_succ (n : Nat) (x : BitVec 32) : unbits (n + 1) x = unbit (unbits n x) := rfl
theorem u_top (x : BitVec 32) : u x / (2147483648 : Int) = if x.getLsbD 31 then 1 else 0 := by
  have h := x.isLt
  have hb : x.getLsbD 31 = decide (2147483648 ≤ x.toNat) := by
    simp only [BitVec.getLsbD, Nat.testBit, Nat.shiftRight_eq_div_pow]
    rcases Nat.lt_or_ge x.toNat 2147483648 with e | e
    · rw [show x.toNat / 2 ^ 31 = 0 from Nat.div_eq_of_lt e]
      simp
      omega
    · rw [show x.toNat / 2 ^ 31 = 1 by omega]
      simp
      omega
  unfold u
  rw [hb]
  rcases Nat.lt_or_ge x.toNat 2147483648 with e | e
  · rw [if_neg (by simp; omega)]; omega
  · rw [if_pos (by simpa using e)]; omega
theorem u_high {x : BitVec 32} (h : x.getLsbD 31 = true) : u x / (2147483648 : Int) = 1 := by rw [u_top, h]; rfl
theorem u_low {x : BitVec 32} (h : ¬ x.getLsbD 31 = true) : u x / (2147483648 : Int) = 0 := by rw [u_top, if_neg h]
set_option maxHeartbeats 400000 in
theorem back_any (w : World) (x : BitVec 32) : Calls Try.prog 34 #[.int .u32 (u x)] w fun e w' => e = .returned (.int .u32 (u (unbits 8 x))) ∧ w' = w := by
  go_enter Try.func34, Try.ntmps34
  go_wp2_with fail
  go_loopw [0, 3] (fun r i wr => ∃ k : Nat, k ≤ 8 ∧ i = .int .i64 k ∧ r = .int .u32 (u (unbits k x)) ∧ wr = w) (fun _ i _ => 8 - (intOf i).toNat)
  case atStart => exact ⟨0, Nat.zero_le _, rfl, rfl, rfl⟩
  case round =>
    obtain ⟨k, hk, rfl, rfl, rfl⟩ := hrel
    by_cases hlt : k < 8
    · have hlt' : (k : Int) < 8 := by omega
      by_cases hb0 : (unbits k x).getLsbD 31 = true
      · have h1 := u_high hb0
        have h2 := unbits_succ k x
        rw [unbit, if_pos hb0] at h2
        have H2 := hide h2
        have HB := hide hb0
        clear h2 hb0
        go_wp2_with fail
        exact ⟨⟨k + 1, by omega, by go_num, by rw [H2.out], trivial⟩, by simp [intOf]; omega⟩
      · have h1 := u_low hb0
        have h2 := unbits_succ k x
        rw [unbit, if_neg hb0] at h2
        have H2 := hide h2
        have HB := hide hb0
        clear h2 hb0
        go_wp2_with fail
        exact ⟨⟨k + 1, by omega, by go_num, by rw [H2.out], trivial⟩, by simp [intOf]; omega⟩
    · obtain rfl : k = 8 := by omega
      go_wp2_with fail
      go_ret
      exact ⟨rfl, rfl⟩
end Go.Proofs.Ytmdjkpmjpngkdaa

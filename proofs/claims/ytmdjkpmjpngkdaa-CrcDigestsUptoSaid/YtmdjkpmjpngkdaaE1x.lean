/- The statements that take numbers: Fixes, Joins, Linear. -/
import Derived.Test.YtmdjkpmjpngkdaaD3x
namespace Go.Proofs.Ytmdjkpmjpngkdaa
set_option linter.unusedVariables false
set_option linter.unusedSimpArgs false
open Go.RowKit K

set_option maxHeartbeats 400000 in
theorem fixes_any (w : World) (x y : BitVec 32) : Calls Try.prog 4 #[.int .u32 (u x), .int .u32 (u y)] w fun e w' => e = .returned (.bool true) ∧ Turn [] w w' := by
  go_enter Try.func4, Try.ntmps4
  go_wp2_with fail
  refine (awake_any _).mono ?_
  rintro e w1 ⟨rfl, ht1⟩
  have HT1 := hide ht1
  clear ht1
  go_wp2_with fail
  refine (fix_any _ x y).mono ?_
  rintro e w2 ⟨rfl, ht2⟩
  have HT2 := hide (HT1.out.trans0 ht2)
  clear ht2
  go_wp2_with fail
  refine (rfix_any _ x y).mono ?_
  rintro e w3 ⟨rfl, ht3⟩
  have HT3 := hide (HT2.out.trans0 ht3)
  clear ht3
  go_wp2_with fail
  go_ret
  exact ⟨rfl, HT3.out⟩
set_option maxHeartbeats 400000 in
theorem joins_any (w : World) (x y : BitVec 32) (n : Int) (hn : n ≤ 9223372036854775807) : Calls Try.prog 8 #[.int .u32 (u x), .int .u32 (u y), .int .i64 n] w fun e w' => e = .returned (.bool true) ∧ Turn [] w w' := by
  go_enter Try.func8, Try.ntmps8
  go_wp2_with fail
  refine (awake_any _).mono ?_
  rintro e w1 ⟨rfl, ht1⟩
  have HT1 := hide ht1
  clear ht1
  go_wp2_with fail
  refine (join_any _ x y n hn).mono ?_
  rintro e w2 ⟨rfl, ht2⟩
  have HT2 := hide (HT1.out.trans0 ht2)
  clear ht2
  go_wp2_with fail
  refine (rjoin_any _ x y n hn).mono ?_
  rintro e w3 ⟨rfl, ht3⟩
  have HT3 := hide (HT2.out.trans0 ht3)
  clear ht3
  go_wp2_with fail
  refine (behind_any _ y x n hn).mono ?_
  rintro e w4 ⟨rfl, ht4⟩
  have HT4 := hide (HT3.out.trans0 ht4)
  clear ht4
  go_wp2_with fail
  refine (rbehind_any _ y x n hn).mono ?_
  rintro e w5 ⟨rfl, ht5⟩
  have HT5 := hide (HT4.out.trans0 ht5)
  clear ht5
  go_wp2_with fail
  go_ret
  exact ⟨rfl, HT5.out⟩
theorem bit_zero : bit 0#32 = 0#32 := by decide
theorem T_zero : T 0#32 = 0#32 := by decide +kernel
theorem zer_zero (n : Nat) : zer n 0#32 = 0#32 := by
  induction n with
  | zero => rfl
  | succ n ih => rw [zer, ih, T_zero]
theorem zerI_none (n : Int) (hn : n ≤ 0) (x : BitVec 32) : zerI n x = x := by rw [zerI, show n.toNat = 0 by omega]; rfl
theorem zerI_add (m n : Int) (hm : 0 ≤ m) (hn : 0 ≤ n) (x : BitVec 32) : zerI m (zerI n x) = zerI (m + n) x := by
  rw [zerI, zerI, zerI, ← zer_add]
  congr 1
  omega
set_option maxHeartbeats 400000 in
theorem linear_any (w : World) (x y : BitVec 32) (n : Int) (h0 : 0 ≤ n) (hn : n < 65536) : Calls Try.prog 10 #[.int .u32 (u x), .int .u32 (u y), .int .u16 n] w fun e w' => e = .returned (.bool true) ∧ Turn [] w w' := by
  have hwn : IntKind.i64.wrap n = n := by rw [IntKind.wrap_i64]; omega
  have hneg : IntKind.i64.wrap (-n) = -n := by rw [IntKind.wrap_i64]; omega
  have e1 : zerI n 0#32 ^^^ y = y := by rw [zerI, zer_zero]; simp
  have e2 : zerI 0 x ^^^ y = x ^^^ y := by rw [zerI_none 0 (by decide)]
  have e3 : zerI (-n) x ^^^ y = x ^^^ y := by rw [zerI_none (-n) (by omega)]
  have e5 : zerI (n - n / 2) (zerI (n / 2) x) ^^^ y = zerI n x ^^^ y := by
    rw [zerI_add _ _ (by omega) (by omega), show n - n / 2 + n / 2 = n by omega]
  have e6 : zerI n x ^^^ (zerI n x ^^^ y) = y := by rw [← BitVec.xor_assoc, BitVec.xor_self, BitVec.zero_xor]
  have E1 := hide e1
  have E2 := hide e2
  have E3 := hide e3
  have E5 := hide e5
  have E6 := hide e6
  clear e1 e2 e3 e5 e6
  go_enter Try.func10, Try.ntmps10
  go_wp2_with fail
  refine (awake_any _).mono ?_
  rintro e w1 ⟨rfl, ht1⟩
  have HT1 := hide ht1
  clear ht1
  go_wp2_with fail
  refine (join_any _ 0#32 y n (by omega)).mono ?_
  rintro e w2 ⟨rfl, ht2⟩
  have HT2 := hide (HT1.out.trans0 ht2)
  clear ht2
  rw [E1.out]
  go_wp2_with fail
  refine (join_any _ x y 0 (by omega)).mono ?_
  rintro e w3 ⟨rfl, ht3⟩
  have HT3 := hide (HT2.out.trans0 ht3)
  clear ht3
  rw [E2.out]
  go_wp2_with fail
  refine (join_any _ x y (-n) (by omega)).mono ?_
  rintro e w4 ⟨rfl, ht4⟩
  have HT4 := hide (HT3.out.trans0 ht4)
  clear ht4
  rw [E3.out]
  go_wp2_with fail
  refine (behind_any _ y x 0 (by omega)).mono ?_
  rintro e w5 ⟨rfl, ht5⟩
  have HT5 := hide (HT4.out.trans0 ht5)
  clear ht5
  rw [E2.out]
  go_wp2_with fail
  refine (join_any _ x 0#32 (n / 2) (by omega)).mono ?_
  rintro e w6 ⟨rfl, ht6⟩
  have HT6 := hide (HT5.out.trans0 ht6)
  clear ht6
  go_wp2_with fail
  refine (join_any _ _ y (n - n / 2) (by omega)).mono ?_
  rintro e w7 ⟨rfl, ht7⟩
  have HT7 := hide (HT6.out.trans0 ht7)
  clear ht7
  rw [E5.out]
  go_wp2_with fail
  refine (join_any _ x y n (by omega)).mono ?_
  rintro e w8 ⟨rfl, ht8⟩
  have HT8 := hide (HT7.out.trans0 ht8)
  clear ht8
  go_wp2_with fail
  refine (join_any _ x y n (by omega)).mono ?_
  rintro e w9 ⟨rfl, ht9⟩
  have HT9 := hide (HT8.out.trans0 ht9)
  clear ht9
  go_wp2_with fail
  refine (behind_any _ _ x n (by omega)).mono ?_
  rintro e wa ⟨rfl, hta⟩
  have HTa := hide (HT9.out.trans0 hta)
  clear hta
  rw [E6.out]
  go_wp2_with fail
  go_ret
  exact ⟨rfl, HTa.out⟩
end Go.Proofs.Ytmdjkpmjpngkdaa

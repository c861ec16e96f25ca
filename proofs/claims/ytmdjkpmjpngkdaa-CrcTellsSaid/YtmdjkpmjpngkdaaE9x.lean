/- The statement on texts in which bits are turned, walked. -/
import Derived.Test.YtmdjkpmjpngkdaaE8x
namespace Go.Proofs.Ytmdjkpmjpngkdaa
set_option linter.unusedVariables false
set_option linter.unusedSimpArgs false
open Go.RowKit K

set_option maxHeartbeats 400000 in
theorem tells_any (w : World) (s : ByteArray) (hs : s.size ≤ 140737488351232) (x : Int) (hx0 : -9223372036854775808 ≤ x) (hx1 : x ≤ 9223372036854775807) (m : BitVec 32) : Calls Try.prog 6 #[.string s, .int .i64 x, .int .u32 (u m)] w fun e w' => e = .returned (.bool true) ∧ Turn [] w w' := by
  go_enter Try.func6, Try.ntmps6
  go_wp2_with fail
  refine (awake_any _).mono ?_
  rintro e w1 ⟨rfl, ht1⟩
  have HT1 := hide ht1
  clear ht1
  by_cases h4 : s.size < 4
  · have h4' : (s.size : Int) < 4 := by omega
    go_wp2_with fail
    go_ret
    exact ⟨rfl, HT1.out⟩
  · have h4' : ¬ (s.size : Int) < 4 := by omega
    by_cases hm : m = 0#32
    · have hm' : u m = 0 := by rw [hm]; rfl
      clear hm
      go_wp2_with fail
      go_ret
      exact ⟨rfl, HT1.out⟩
    · have hm' : (u m == 0) = false := by simpa using u_ne_zero hm
      have HM := hide hm
      clear hm
      by_cases hneg : x < 0
      · have hw1 : IntKind.i64.wrap (x + 1) = x + 1 := by rw [IntKind.wrap_i64]; omega
        have hw2 : IntKind.i64.wrap (-(x + 1)) = -(x + 1) := by rw [IntKind.wrap_i64]; omega
        obtain ⟨a, ha, hal⟩ : ∃ a : Nat, -(x + 1).tmod ((s.size : Int) - 3) = (a : Int) ∧ a + 4 ≤ s.size := by
          have h1 : 0 ≤ -(x + 1) := by omega
          have h2 := Int.emod_nonneg (-(x + 1)) (show (s.size : Int) - 3 ≠ 0 by omega)
          have h3 := Int.emod_lt_of_pos (-(x + 1)) (show 0 < (s.size : Int) - 3 by omega)
          have h5 : -(x + 1).tmod ((s.size : Int) - 3) = -(x + 1) % ((s.size : Int) - 3) := by rw [← Int.neg_tmod, Int.tmod_eq_emod_of_nonneg h1]
          exact ⟨(-(x + 1) % ((s.size : Int) - 3)).toNat, by rw [h5]; omega, by omega⟩
        go_wp2_with fail
        go_loopw [7, 8] (fun t i wr => ∃ k : Nat, k ≤ 4 ∧ i = .int .i64 k ∧ t = .string (strOf (turnTo s.data.toList a m k)) ∧ Turn [] w wr) (fun _ i _ => 4 - (intOf i).toNat)
        case atStart => exact ⟨0, Nat.zero_le _, rfl, by rw [turnTo, strOf_self], HT1.out⟩
        case round =>
          obtain ⟨k, hk, rfl, rfl, ht⟩ := hrel
          by_cases hlt : k < 4
          · have hlt' : (k : Int) < 4 := by omega
            have HT := hide ht
            clear ht
            have hwk : wrap64 ((a : Int) + (k : Int)) = (a : Int) + (k : Int) := by unfold wrap64; omega
            have hby : u m / 2 ^ (8 * k) % 256 = ((mb m k).toNat : Int) := by rw [u_shr, byte_u]; rfl
            go_wp2_with fail
            rw [show ((a : Int) + (k : Int)) = ((a + k : Nat) : Int) from by omega]
            refine (turned_any _ _ (a + k) (mb m k) (by rw [strOf_size, turnTo_length]; exact hs) (by rw [strOf_size, turnTo_length]; show a + k < s.size; omega)).mono ?_
            rintro e w2 ⟨rfl, ht2⟩
            have HT2 := hide (HT.out.trans0 ht2)
            clear ht2
            go_wp2_with fail
            exact ⟨⟨k + 1, by omega, by go_num, rfl, HT2.out⟩, by simp [intOf]; omega⟩
          · obtain rfl : k = 4 := by omega
            obtain ⟨t, hT⟩ : ∃ t, t = strOf (turnTo s.data.toList a m 4) := ⟨_, rfl⟩
            have htl := turn_tells (~~~ 0#32) s.data.toList a m (by show a + 4 ≤ s.size; omega) HM.out
            have hmo : more 0#32 t ≠ more 0#32 s := by
              rw [hT]
              intro h
              apply htl
              have := congrArg (fun z : BitVec 32 => ~~~ z) h
              simpa [more, strOf_list] using this
            have hne : (t.toList == s.toList) = false := str_beq_ne (fun e => hmo (by rw [e]))
            have hu : (u (more 0#32 t) == u (more 0#32 s)) = false := by simpa using fun e => hmo (u_inj e)
            have htz : t.size ≤ 9223372036854775807 := by rw [hT, strOf_size, turnTo_length]; show s.size ≤ _; omega
            have HT := hide ht
            rw [← hT]
            clear hT hmo htl ht hk hlt
            go_wp2_with fail
            refine (sum_any _ t htz).mono ?_
            rintro e w2 ⟨rfl, ht2⟩
            have HT2 := hide (HT.out.trans0 ht2)
            clear ht2
            go_wp2_with fail
            refine (sum_any _ s (by omega)).mono ?_
            rintro e w3 ⟨rfl, ht3⟩
            have HT3 := hide (HT2.out.trans0 ht3)
            clear ht3
            go_wp2_with fail
            go_ret
            refine ⟨?_, HT3.out⟩
            simp
            simpa using hu
      · obtain ⟨a, ha, hal⟩ : ∃ a : Nat, x % ((s.size : Int) - 3) = (a : Int) ∧ a + 4 ≤ s.size := by
          have h2 := Int.emod_nonneg x (show (s.size : Int) - 3 ≠ 0 by omega)
          have h3 := Int.emod_lt_of_pos x (show 0 < (s.size : Int) - 3 by omega)
          exact ⟨(x % ((s.size : Int) - 3)).toNat, by omega, by omega⟩
        go_wp2_with fail
        try rw [ha]
        go_loopw [7, 8] (fun t i wr => ∃ k : Nat, k ≤ 4 ∧ i = .int .i64 k ∧ t = .string (strOf (turnTo s.data.toList a m k)) ∧ Turn [] w wr) (fun _ i _ => 4 - (intOf i).toNat)
        case atStart => exact ⟨0, Nat.zero_le _, rfl, by rw [turnTo, strOf_self], HT1.out⟩
        case round =>
          obtain ⟨k, hk, rfl, rfl, ht⟩ := hrel
          by_cases hlt : k < 4
          · have hlt' : (k : Int) < 4 := by omega
            have HT := hide ht
            clear ht
            have hwk : wrap64 ((a : Int) + (k : Int)) = (a : Int) + (k : Int) := by unfold wrap64; omega
            have hby : u m / 2 ^ (8 * k) % 256 = ((mb m k).toNat : Int) := by rw [u_shr, byte_u]; rfl
            go_wp2_with fail
            rw [show ((a : Int) + (k : Int)) = ((a + k : Nat) : Int) from by omega]
            refine (turned_any _ _ (a + k) (mb m k) (by rw [strOf_size, turnTo_length]; exact hs) (by rw [strOf_size, turnTo_length]; show a + k < s.size; omega)).mono ?_
            rintro e w2 ⟨rfl, ht2⟩
            have HT2 := hide (HT.out.trans0 ht2)
            clear ht2
            go_wp2_with fail
            have hstr : strOf (turnL (strOf (turnTo s.data.toList a m k)).data.toList (a + k) (mb m k)) = strOf (turnTo s.data.toList a m (k + 1)) := rfl
            rw [hstr]
            first | exact ⟨⟨k + 1, by omega, by go_num, rfl, HT2.out⟩, by simp [intOf]; omega⟩ | exact ⟨⟨_, _, _, _, _, _, _, _, _, _, _, _, _, _, _, _, _, ⟨k + 1, by omega, rfl, rfl, HT2.out⟩, rfl⟩, by simp [intOf]; omega⟩
          · obtain rfl : k = 4 := by omega
            obtain ⟨t, hT⟩ : ∃ t, t = strOf (turnTo s.data.toList a m 4) := ⟨_, rfl⟩
            have htl := turn_tells (~~~ 0#32) s.data.toList a m (by show a + 4 ≤ s.size; omega) HM.out
            have hmo : more 0#32 t ≠ more 0#32 s := by
              rw [hT]
              intro h
              apply htl
              have := congrArg (fun z : BitVec 32 => ~~~ z) h
              simpa [more, strOf_list] using this
            have hne : (t.toList == s.toList) = false := str_beq_ne (fun e => hmo (by rw [e]))
            have hu : (u (more 0#32 t) == u (more 0#32 s)) = false := by simpa using fun e => hmo (u_inj e)
            have htz : t.size ≤ 9223372036854775807 := by rw [hT, strOf_size, turnTo_length]; show s.size ≤ _; omega
            have HT := hide ht
            rw [← hT]
            clear hT hmo htl ht hk hlt
            go_wp2_with fail
            refine (sum_any _ t htz).mono ?_
            rintro e w2 ⟨rfl, ht2⟩
            have HT2 := hide (HT.out.trans0 ht2)
            clear ht2
            go_wp2_with fail
            refine (sum_any _ s (by omega)).mono ?_
            rintro e w3 ⟨rfl, ht3⟩
            have HT3 := hide (HT2.out.trans0 ht3)
            clear ht3
            go_wp2_with fail
            go_ret
            refine ⟨?_, HT3.out⟩
            simp
            simpa using hu
end Go.Proofs.Ytmdjkpmjpngkdaa

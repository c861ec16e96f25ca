/- The writer's numbers, walked: the lowest n bytes, great end first. -/
import Derived.Test.YtlnjemdnmndnfaaWire1
namespace Go.Proofs.Ytlnjemdnmndnfaa.Wire
set_option linter.unusedVariables false
set_option linter.unusedSimpArgs false
open Go.RowKit K

/-- byte number j of the lowest n bytes, great end first. -/
def byteAt (n v j : Nat) : Nat := v / 2 ^ (8 * (n - 1 - j)) % 256
def beN (n v : Nat) : List UInt8 := (List.range n).map fun j => UInt8.ofNat (byteAt n v j)
theorem beN_length (n v : Nat) : (beN n v).length = n := by simp [beN]

set_option maxHeartbeats 1600000 in
set_option maxRecDepth 100000 in
theorem fixed_at {w : World} {F : List Nat} {b : Nat} {bs : List UInt8} (h : Wr w F b bs) (v n : Nat) (hv : v < 18446744073709551616) (hn : n ≤ 8) (hn1 : 1 ≤ n) (hsz : bs.length + n ≤ 140737488355328) :
    Calls Try.prog 58 #[.pointer (some ⟨b, 0, none⟩), .int .u64 v, .int .i64 n] w (Wrote F b (bs ++ beN n v) w) := by
  have H := hide h
  clear h
  go_enter Try.func58, Try.ntmps58
  go_wp2_with fail
  go_loopw [9] (fun i wr => ∃ (k : Nat) (cs : Array Value), k ≤ n ∧ i = .int .i64 k ∧ wr = w.alloc (.cells cs 117) ∧ cs.size = 8 ∧ ∀ j, j < k → cs[j]? = some (.int .u8 (byteAt n v j))) (fun i _ => n - (intOf i).toNat)
  case atStart => exact ⟨0, _, Nat.zero_le _, rfl, rfl, rfl, fun j hj => by omega⟩
  case round =>
    obtain ⟨k, cs, hk, rfl, rfl, hcs, hall⟩ := hrel
    have HA := hide hall
    clear hall
    by_cases hlt : k < n
    · have hc := (Blk.new w 117 cs).cell k
      have hc2 : cs[k]? = some cs[k] := Array.getElem?_eq_getElem (by omega)
      have hnew : ∀ j, j < k + 1 → (cs.setIfInBounds k (.int .u8 ((v : Int) / 2 ^ (8 * (n - 1 - k)) % 256)))[j]? = some (.int .u8 (byteAt n v j)) := by
        intro j hj
        by_cases hjk : j = k
        · subst hjk
          simp [byteAt, hcs, show j < 8 by omega]
        · rw [Array.getElem?_setIfInBounds_ne (Ne.symm hjk)]
          exact HA.out j (by omega)
      have HN := hide hnew
      clear hnew
      go_wp2_with fail
      exact ⟨⟨k + 1, _, by omega, by go_num, rfl, by simpa using hcs, HN.out⟩, by simp [intOf]; omega⟩
    · obtain rfl : k = n := by omega
      have hrd : Reads (w.alloc (.cells cs 117)) 1 (some ⟨w.heap.size, 0, none⟩) k (bytesV (beN k v)) := by
        refine ⟨by rw [bytesV_length, beN_length]; omega, fun _ => ⟨w.heap.size, 0, rfl, by simp, fun j u hu => ?_⟩⟩
        have hj : j < k := by
          have := (List.getElem?_eq_some_iff.1 hu).1
          rwa [bytesV_length, beN_length] at this
        rw [Nat.zero_add, (Blk.new w 117 cs).cell j, HA.out j hj]
        simp [bytesV, beN, hj] at hu
        have hb : byteAt k v j < 256 := Nat.mod_lt _ (by omega)
        have e : ((byteAt k v j : Nat) : Int) % 256 = byteAt k v j := by omega
        rw [← hu, e]
      have hcv := run_str_of_bytes (P := Try.prog) _ 36 9 5 Try.underlying36 Try.underlying5 Try.underlying9 _ _ 8 _ hrd
      have HW := hide (H.out.turn0 ((Turn.refl _ _).alloc (.cells cs 117)))
      have HF := hide H.out.lt
      obtain ⟨i0, hi0, _, _, _⟩ := info_parts infoU8
      have hsl := run_slice_arr (P := Try.prog) (w.alloc (.cells cs 117)) 117 5 8 i0 Try.underlying117 hi0 k hn ⟨w.heap.size, 0, none⟩
      clear hrd
      go_wp2_with (go_at_call 64; refine (raw_at HW.out _ (by rw [strOf_size, beN_length]; exact hsz)).mono ?_; rintro e w1 ⟨F', rfl, ht, hw1, hF⟩)
      go_end0
      exact ⟨F', rfl, Turn.pre ((Turn.refl _ _).alloc _) ht, hw1, fun k hk => (hF k hk).imp id (fun h => by simp at h; omega)⟩

/-- the eight bytes of a signed number. -/
def be8 (x : Int) : List UInt8 := beN 8 (x % 18446744073709551616).toNat
theorem be8_length (x : Int) : (be8 x).length = 8 := beN_length _ _
set_option maxHeartbeats 400000 in
theorem i64_at {w : World} {F : List Nat} {b : Nat} {bs : List UInt8} (h : Wr w F b bs) (x : Int) (hsz : bs.length + 8 ≤ 140737488355328) :
    Calls Try.prog 47 #[.pointer (some ⟨b, 0, none⟩), .int .i64 x] w (Wrote F b (bs ++ be8 x) w) := by
  obtain ⟨m, hm⟩ := Int.eq_ofNat_of_zero_le (Int.emod_nonneg x (show (18446744073709551616 : Int) ≠ 0 by omega))
  have hlt : m < 18446744073709551616 := by omega
  have hb : be8 x = beN 8 m := by unfold be8; rw [hm]; rfl
  rw [hb]
  have hw : IntKind.u64.wrap x = (m : Int) := by rw [← hm]; rfl
  have HC := hide (fixed_at h m 8 hlt (by omega) (by omega) hsz)
  clear h hb
  go_enter Try.func47, Try.ntmps47
  go_wp2_with (go_at_call 58; refine HC.out.mono ?_; rintro e w1 ⟨F', rfl, ht, hw1, hF⟩)
  go_end0
  exact ⟨F', rfl, ht, hw1, hF⟩
end Go.Proofs.Ytlnjemdnmndnfaa.Wire

/- The sums: the document's More and Sum, the program's. -/
import Derived.Test.YtmdjkpmjpngkdaaC0x
import Derived.Test.YtmdjkpmjpngkdaaBytes
namespace Go.Proofs.Ytmdjkpmjpngkdaa
set_option linter.unusedVariables false
set_option linter.unusedSimpArgs false
open Go.RowKit K

theorem conv_byte (b : UInt8) : IntKind.u32.wrap (b.toNat : Int) = u (BitVec.ofNat 32 b.toNat) := u_conv _ (by have := b.toNat_lt; omega)
theorem run_at (x : BitVec 32) (s : ByteArray) (k : Nat) (hk : k < s.size) : run x (s.data.toList.take (k + 1)) = take (run x (s.data.toList.take k)) s[k] := run_take x s.data.toList k hk
theorem run_end (x : BitVec 32) (s : ByteArray) : run x (s.data.toList.take s.size) = run x s.data.toList := by rw [List.take_of_length_le (show s.data.toList.length ≤ s.size from Nat.le_refl _)]
set_option maxHeartbeats 400000 in
theorem rmore_any (w : World) (x : BitVec 32) (s : ByteArray) (hs : s.size ≤ 9223372036854775807) : Calls Try.prog 16 #[.int .u32 (u x), .string s] w fun e w' => e = .returned (.int .u32 (u (more x s))) ∧ w' = w := by
  go_enter Try.func16, Try.ntmps16
  go_wp2_with fail
  go_loopw [5, 6] (fun r i wr => ∃ k : Nat, k ≤ s.size ∧ i = .int .i64 k ∧ r = .int .u32 (u (run (~~~ x) (s.data.toList.take k))) ∧ wr = w) (fun _ i _ => s.size - (intOf i).toNat)
  case atStart => exact ⟨0, Nat.zero_le _, rfl, rfl, rfl⟩
  case round =>
    obtain ⟨k, hk, rfl, rfl, rfl⟩ := hrel
    by_cases hlt : k < s.size
    · have hlt' : (k : Int) < s.size := by omega
      go_wp2_with fail
      refine (take_any _ _ _ _ (conv_byte _)).mono ?_
      rintro e w1 ⟨rfl, rfl⟩
      go_wp2_with fail
      exact ⟨⟨k + 1, by omega, by go_num, by rw [run_at _ _ _ hlt]; rfl, trivial⟩, by simp [intOf]; omega⟩
    · obtain rfl : k = s.size := by omega
      go_wp2_with fail
      go_ret
      refine ⟨?_, rfl⟩
      show Ending.returned (.int .u32 (u (~~~ _))) = _
      rw [run_end]
      rfl
set_option maxHeartbeats 400000 in
theorem rsum_any (w : World) (s : ByteArray) (hs : s.size ≤ 9223372036854775807) : Calls Try.prog 14 #[.string s] w fun e w' => e = .returned (.int .u32 (u (more 0#32 s))) ∧ w' = w := by
  go_enter Try.func14, Try.ntmps14
  go_wp2_with fail
  refine (rmore_any _ 0#32 s hs).mono ?_
  rintro e w1 ⟨rfl, rfl⟩
  go_wp2_with fail
  go_ret
  exact ⟨rfl, rfl⟩
theorem not_u (x : BitVec 32) : u (~~~ x) = 4294967295 - u x := by
  unfold u
  rw [BitVec.toNat_not]
  have := x.isLt
  omega
theorem toList_ne {s : ByteArray} (h : s.size ≠ 0) : s.toList.isEmpty = false := by
  cases e : s.toList.isEmpty with
  | false => rfl
  | true =>
    have : s.toList = [] := by simpa using e
    have := (toList_nil_iff_emptyBytes s).1 this
    subst this
    exact absurd rfl h
set_option maxHeartbeats 400000 in
theorem more_any (w : World) (x : BitVec 32) (s : ByteArray) (hs : s.size ≤ 9223372036854775807) : Calls Try.prog 15 #[.int .u32 (u x), .string s] w fun e w' => e = .returned (.int .u32 (u (more x s))) ∧ Turn [] w w' := by
  by_cases h0 : s.size = 0
  · obtain rfl : s = ⟨#[]⟩ := str_ext (List.eq_nil_of_length_eq_zero h0)
    go_enter Try.func15, Try.ntmps15
    go_wp2_with fail
    go_ret
    refine ⟨?_, Turn.refl _ _⟩
    show Ending.returned (.int .u32 (u x)) = _
    rw [more, show run (~~~ x) (ByteArray.mk #[]).data.toList = ~~~ x from rfl, BitVec.not_not]
  · have hz := (zero_of_info zero30).1
    have hne := toList_ne h0
    go_enter Try.func15, Try.ntmps15
    go_wp2_with fail
    refine (table_any _).mono ?_
    rintro e w1 ⟨rfl, ht1⟩
    have hst := size_tab 256
    have hall := all_tab 256
    have hsz : zeroT.size = (tab 256).size := by rw [tab_size]; simp [zeroT]
    generalize hC : tab 256 = C at hst hall hsz ⊢
    have HC := hide hC
    have HT1 := hide ht1
    have HS := hide hst
    have HA := hide hall
    have HZ := hide hsz
    clear hC hst hall hsz ht1
    set_option maxRecDepth 100000 in go_wp2_with (refine wpList_store_row rfl 30 (.tmp 5) (.tmp 11) rfl w1.heap.size C rfl rfl 30 zeroT (Blk.new w1 30 zeroT) HS.out HZ.out HA.out ?_)
    rw [World.setRow_alloc_new]
    go_loopw [6, 16] (fun r i wr => ∃ k : Nat, k ≤ s.size ∧ i = .int .i64 k ∧ r = .int .u32 (u (run (~~~ x) (s.data.toList.take k))) ∧ wr = w1.alloc (.cells C 30)) (fun _ i _ => s.size - (intOf i).toNat)
    case atStart => exact ⟨0, Nat.zero_le _, rfl, by rw [List.take_zero]; show _ = Value.int .u32 (u (~~~ x)); rfl, rfl⟩
    case round =>
      obtain ⟨k, hk, rfl, rfl, rfl⟩ := hrel
      by_cases hlt : k < s.size
      · have hlt' : (k : Int) < s.size := by omega
        have hix := index_at (run (~~~ x) (s.data.toList.take k)) s[k]
        have hn : ((run (~~~ x) (s.data.toList.take k)) ^^^ BitVec.ofNat 32 s[k].toNat).toNat % 256 < 256 := Nat.mod_lt _ (by decide)
        have hst := take_step (run (~~~ x) (s.data.toList.take k)) s[k]
        have hcell := tab_get 256 _ hn hn
        rw [HC.out] at hcell
        rw [IntKind.wrap_u8'] at hix
        generalize ((run (~~~ x) (s.data.toList.take k)) ^^^ BitVec.ofNat 32 s[k].toNat).toNat % 256 = n at hix hn hst hcell
        have hn' : (n : Int) < 256 := by omega
        have hn2 : ¬ (n : Int) < 0 := by omega
        have HST := hide hst
        clear hst
        set_option maxRecDepth 100000 in go_wp2_with fail
        exact ⟨⟨k + 1, by omega, by go_num, by rw [run_at _ _ _ hlt, ← HST.out], trivial⟩, by simp [intOf]; omega⟩
      · obtain rfl : k = s.size := by omega
        go_wp2_with fail
        go_ret
        refine ⟨?_, HT1.out.alloc _⟩
        show Ending.returned (.int .u32 _) = _
        rw [run_end, more]
end Go.Proofs.Ytmdjkpmjpngkdaa

/- The document's reader of forms (gantryref02), walked where nothing fails: NewReader, Left, I64. -/
import Derived.Test.YtlnjemdnmndnfaaProg
import Derived.Test.YtlnjemdnmndnfaaWirePlain
import Derived.Test.YtlnjemdnmndnfaaRow
namespace Go.Proofs.Ytlnjemdnmndnfaa.RR
set_option linter.unusedVariables false
set_option linter.unusedSimpArgs false
open Go.RowKit K

/-- the document's reader in memory: where it stands in its bytes; no error. -/
def Rd (w : World) (b : Nat) (s : ByteArray) (a : Nat) : Prop := Blk w b 100 #[.string s, .int .i64 a, .int .i64 0] ∧ a ≤ s.size ∧ s.size ≤ 140737488355328
theorem Rd.turn {w w1 : World} {F : List Nat} {b a : Nat} {s : ByteArray} (h : Rd w b s a) (ht : Turn F w w1) (hd : b ∉ F) : Rd w1 b s a := ⟨h.1.turn ht hd, h.2⟩
theorem Rd.turn0 {w w1 : World} {b a : Nat} {s : ByteArray} (h : Rd w b s a) (ht : Turn [] w w1) : Rd w1 b s a := h.turn ht (by simp)
set_option maxHeartbeats 400000 in
theorem new_any (w : World) (s : ByteArray) (hs : s.size ≤ 140737488355328) : Calls Try.prog 43 #[.string s] w fun e w' => e = .returned (.pointer (some ⟨w.heap.size, 0, none⟩)) ∧ Turn [] w w' ∧ Rd w' w.heap.size s 0 := by
  go_enter Try.func43, Try.ntmps43
  go_wp2
  go_ret
  exact ⟨rfl, (Turn.refl _ _).alloc _, Blk.new _ _ _, Nat.zero_le _, hs⟩
set_option maxHeartbeats 400000 in
theorem left_at {w : World} {b a : Nat} {s : ByteArray} (h : Rd w b s a) :
    Calls Try.prog 44 #[.pointer (some ⟨b, 0, none⟩)] w fun e w' => e = .returned (.int .i64 ((s.size - a : Nat) : Int)) ∧ ∃ n, w' = w.drewN n := by
  have h0 : w.cell? ⟨b, 0, none⟩ = some (.string s) := h.1.cell 0
  have h1 : w.cell? ⟨b, 1, none⟩ = some (.int .i64 a) := h.1.cell 1
  have ha := h.2.1
  have hs := h.2.2
  have hw : IntKind.i64.wrap ((s.size : Int) - (a : Int)) = ((s.size - a : Nat) : Int) := by rw [IntKind.wrap_i64]; omega
  clear h
  go_enter Try.func44, Try.ntmps44
  go_wp2_with fail
  go_quiet (fail)
  go_wp2_with fail
  go_ret
  exact ⟨rfl, _, rfl⟩
def Got (v : Nat) (b : Nat) (s : ByteArray) (a : Nat) (w : World) (e : Ending) (w' : World) : Prop := e = .returned (.tuple #[.int .u64 v, .int .i64 0]) ∧ Turn [b] w w' ∧ Rd w' b s a
set_option maxHeartbeats 1600000 in
theorem fixed_at {w : World} {b a : Nat} {s : ByteArray} (h : Rd w b s a) (n : Nat) (hn : a + n ≤ s.size) (hn8 : n ≤ 8) :
    Calls Try.prog 57 #[.pointer (some ⟨b, 0, none⟩), .int .i64 n] w (Got (Wire.beVal ((s.data.toList.drop a).take n)) b s (a + n) w) := by
  have h2 : w.cell? ⟨b, 2, none⟩ = some (.int .i64 0) := h.1.cell 2
  have HB := hide h
  have hsz := h.2.2
  have hln : ¬ ((s.size - a : Nat) : Int) < (n : Int) := by omega
  have hln2 : ¬ s.size - a < n := by omega
  have hbw := h.1.lt
  clear h
  go_enter Try.func57, Try.ntmps57
  go_wp2_with fail
  refine (left_at HB.out).mono ?_
  rintro e w1 ⟨rfl, nl, rfl⟩
  go_wp2_with fail
  clear h2 hln hln2
  have HB1 := hide (HB.out.turn0 ((Turn.refl [] w).drewN nl))
  have HT1 := hide ((Turn.refl [b] w).drewN nl)
  clear HB
  generalize w.drewN nl = w1 at *
  go_loopw [6, 7] (fun v i wr => ∃ k : Nat, k ≤ n ∧ i = .int .i64 k ∧ v = .int .u64 (Wire.beVal ((s.data.toList.drop a).take k)) ∧ ∃ nq, wr = w1.drewN nq) (fun _ i _ => n - (intOf i).toNat)
  case atStart => exact ⟨0, Nat.zero_le _, rfl, rfl, 0, rfl⟩
  case round =>
    obtain ⟨k, hk, rfl, rfl, nq0, rfl⟩ := hrel
    have c0 : w1.cell? ⟨b, 0, none⟩ = some (.string s) := HB1.out.1.cell 0
    have c1 : w1.cell? ⟨b, 1, none⟩ = some (.int .i64 a) := HB1.out.1.cell 1
    by_cases hkn : k < n
    · have hak : a + k < s.size := by omega
      have hb := Wire.beVal_lt ((s.data.toList.drop a).take k)
      have hl : ((s.data.toList.drop a).take k).length ≤ 7 := by have := List.length_take_le k (s.data.toList.drop a); omega
      have hb2 : Wire.beVal ((s.data.toList.drop a).take k) < 72057594037927936 := Nat.lt_of_lt_of_le hb (Nat.le_trans (Nat.pow_le_pow_right (by omega) hl) (by decide))
      have hsn : Hid (Wire.beVal ((s.data.toList.drop a).take (k + 1)) = Wire.beVal ((s.data.toList.drop a).take k) * 256 + s[a + k].toNat) := by
        have hlk : k < (s.data.toList.drop a).length := by
          rw [List.length_drop]
          have : s.data.toList.length = s.size := by rw [Array.length_toList]; rfl
          omega
        have he : (s.data.toList.drop a)[k]'hlk = s[a + k] := by rw [List.getElem_drop]; rfl
        rw [List.take_succ_eq_append_getElem hlk, he]
        exact Wire.beVal_snoc _ _
      obtain ⟨v, hv⟩ : ∃ v, v = Wire.beVal ((s.data.toList.drop a).take k) := ⟨_, rfl⟩
      rw [← hv] at hb2 hsn ⊢
      clear hv hb hl
      have hcv : IntKind.u64.wrap (s[a + k].toNat : Int) = (s[a + k].toNat : Int) := by
        have := s[a + k].toNat_lt
        show (s[a + k].toNat : Int) % 18446744073709551616 = _
        omega
      have hadd : IntKind.u64.wrap ((v : Int) * 256 + (s[a + k].toNat : Int)) = (v : Int) * 256 + (s[a + k].toNat : Int) := by
        have := s[a + k].toNat_lt
        show ((v : Int) * 256 + (s[a + k].toNat : Int)) % 18446744073709551616 = _
        omega
      have hmul : IntKind.u64.wrap ((v : Int) * 256) = (v : Int) * 256 := by
        show ((v : Int) * 256) % 18446744073709551616 = _
        omega
      have hp0 : (0 : Int) ≤ (a : Int) + (k : Int) := by omega
      have hp1 : (a : Int) + (k : Int) < (s.size : Int) := by omega
      have hpw : IntKind.i64.wrap ((a : Int) + (k : Int)) = (a : Int) + (k : Int) := by rw [IntKind.wrap_i64]; omega
      have hpn : ((a : Int) + (k : Int)).toNat = a + k := by omega
      go_wp2_with fail
      go_quiet (fail)
      go_wp2_with fail
      exact ⟨⟨k + 1, by omega, by go_num, by rw [hsn.out]; go_num, _, rfl⟩, by simp [intOf]; omega⟩
    · obtain rfl : k = n := by omega
      have hpw : IntKind.i64.wrap ((a : Int) + (k : Int)) = (a : Int) + (k : Int) := by rw [IntKind.wrap_i64]; omega
      have hf1 := HB1.out.1.frozen 1
      have hz1 := HB1.out.1.lt
      go_wp2_with fail
      all_goals
        go_ret2
        refine ⟨rfl, ?_, ?_, hn, hsz⟩
        · repeat first | exact HT1.out | refine Turn.drew ?_ | refine Turn.drewN ?_ _ | refine Turn.setCell ?_ (.inl (by simp)) _
        · have := (HB1.out.1.drewN nq0).set_ 1 (.int .i64 ((a : Int) + (k : Int)))
          simpa using this
set_option maxHeartbeats 400000 in
theorem i64_at {w : World} {b a : Nat} {s : ByteArray} (h : Rd w b s a) (hn : a + 8 ≤ s.size) :
    Calls Try.prog 45 #[.pointer (some ⟨b, 0, none⟩)] w fun e w' => e = .returned (.tuple #[.int .i64 (Wire.rd8 ((s.data.toList.drop a).take 8)), .int .i64 0]) ∧ Turn [b] w w' ∧ Rd w' b s (a + 8) := by
  have HC := hide (fixed_at h 8 hn (by omega))
  clear h
  go_enter Try.func45, Try.ntmps45
  go_wp2_with (go_at_call 57; refine HC.out.mono ?_; rintro e w1 ⟨rfl, ht, hr⟩)
  go_ret2
  exact ⟨rfl, ht, hr⟩
end Go.Proofs.Ytlnjemdnmndnfaa.RR

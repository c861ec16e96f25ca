/- The reader of forms, walked where nothing fails: NewReader, Left, take, number. -/
import Derived.Test.YtlnjemdnmndnfaaProg
import Derived.Test.YtlnjemdnmndnfaaBytes
import Derived.Defers
import Derived.Recover
import Derived.Lib.Strings
namespace Go.Proofs.Ytlnjemdnmndnfaa.Wire
set_option linter.unusedVariables false
set_option linter.unusedSimpArgs false
open Go.RowKit K

/-- a reader in memory: where it stands in its bytes; no error. -/
def Rd (w : World) (b : Nat) (s : ByteArray) (a : Nat) : Prop := Blk w b 94 #[.int .i64 a, .string s, .int .i64 0] ∧ a ≤ s.size ∧ s.size ≤ 140737488355328
theorem Rd.turn {w w1 : World} {F : List Nat} {b a : Nat} {s : ByteArray} (h : Rd w b s a) (ht : Turn F w w1) (hd : b ∉ F) : Rd w1 b s a := ⟨h.1.turn ht hd, h.2⟩
theorem Rd.turn0 {w w1 : World} {b a : Nat} {s : ByteArray} (h : Rd w b s a) (ht : Turn [] w w1) : Rd w1 b s a := h.turn ht (by simp)

set_option maxHeartbeats 400000 in
theorem newReader (w : World) (s : ByteArray) (hs : s.size ≤ 140737488355328) : Calls Try.prog 40 #[.string s] w fun e w' => e = .returned (.pointer (some ⟨w.heap.size, 0, none⟩)) ∧ Turn [] w w' ∧ Rd w' w.heap.size s 0 := by
  go_enter Try.func40, Try.ntmps40
  go_wp2
  go_ret
  exact ⟨rfl, (Turn.refl _ _).alloc _, Blk.new _ _ _, Nat.zero_le _, hs⟩

set_option maxHeartbeats 400000 in
theorem left_at {w : World} {b a : Nat} {s : ByteArray} (h : Rd w b s a) :
    Calls Try.prog 41 #[.pointer (some ⟨b, 0, none⟩)] w fun e w' => e = .returned (.int .i64 ((s.size - a : Nat) : Int)) ∧ ∃ n, w' = w.drewN n := by
  have h0 := h.1.cell 0
  have h1 := h.1.cell 1
  have ha := h.2.1
  have hs := h.2.2
  have hw : IntKind.i64.wrap ((s.size : Int) - (a : Int)) = ((s.size - a : Nat) : Int) := by rw [IntKind.wrap_i64]; omega
  clear h
  go_enter Try.func41, Try.ntmps41
  go_wp2_with fail
  go_quiet (fail)
  go_wp2_with fail
  go_ret
  exact ⟨rfl, _, rfl⟩

set_option maxHeartbeats 400000 in
theorem need_true (w : World) (c : Int) : Calls Try.prog 66 #[.bool true, .int .i64 c] w fun e w' => e = .returned (.tuple #[]) ∧ w = w' := by
  go_enter Try.func66, Try.ntmps66
  go_wp2
  go_end0
  exact ⟨rfl, rfl⟩

set_option maxHeartbeats 400000 in
theorem take_at {w : World} {b a : Nat} {s : ByteArray} (h : Rd w b s a) (n : Nat) (hn : a + n ≤ s.size) :
    Calls Try.prog 62 #[.pointer (some ⟨b, 0, none⟩), .int .i64 n] w fun e w' => e = .returned (.string (s.extract a (a + n))) ∧ Turn [b] w w' ∧ Rd w' b s (a + n) := by
  have HB := hide h
  have hs := h.2.2
  have hbw := h.1.lt
  have hd1 : decide ((0 : Int) ≤ (n : Int)) = true := by simp
  have hd2 : decide ((n : Int) ≤ ((s.size - a : Nat) : Int)) = true := by simp; omega
  have hd3 : decide (n ≤ s.size - a) = true := by simp; omega
  have hw : IntKind.i64.wrap ((a : Int) + (n : Int)) = (a : Int) + (n : Int) := by rw [IntKind.wrap_i64]; omega
  have HL := hide (left_at h)
  clear h
  go_enter Try.func62, Try.ntmps62
  go_wp2_with (first | (go_at_call 66; refine (need_true _ _).mono ?_; rintro e w' ⟨rfl, rfl⟩) | (go_at_call 41; refine HL.out.mono ?_; rintro e w' ⟨rfl, nl, rfl⟩))
  have HX := hide (HB.out.turn0 ((Turn.refl [] w).drewN nl))
  have HT := hide ((Turn.refl [b] w).drewN nl)
  clear HB HL
  generalize w.drewN nl = wx at *
  have h0 := HX.out.1.cell 0
  have h1 := HX.out.1.cell 1
  have hf := HX.out.1.frozen 0
  have hp0 : (0 : Int) ≤ (a : Int) := by omega
  have hp1 : (a : Int) ≤ (a : Int) + (n : Int) := by omega
  have hp2 : (a : Int) + (n : Int) ≤ (s.size : Int) := by omega
  have hp3 : ((a : Int) + (n : Int)).toNat = a + n := by omega
  go_quiet (fail)
  go_wp2_with fail
  go_ret
  refine ⟨rfl, (HT.out.drewN _).setCell (.inl (by simp)) _, ?_, hn, hs⟩
  have := (HX.out.1.drewN nq).set_ 0 (.int .i64 ((a : Int) + (n : Int)))
  simpa using this

/-- the number of bytes, great end first. -/
def beVal (l : List UInt8) : Nat := l.foldl (fun v c => v * 256 + c.toNat) 0
theorem beVal_snoc (l : List UInt8) (c : UInt8) : beVal (l ++ [c]) = beVal l * 256 + c.toNat := by simp [beVal]
theorem beVal_lt (l : List UInt8) : beVal l < 256 ^ l.length := by
  have h : ∀ (l : List UInt8) (v : Nat) (m : Nat), v < 256 ^ m → l.foldl (fun v c => v * 256 + c.toNat) v < 256 ^ (m + l.length) := by
    intro l
    induction l with
    | nil => intro v m h; simpa using h
    | cons c l ih =>
      intro v m h
      have := ih (v * 256 + c.toNat) (m + 1) (by rw [Nat.pow_succ]; have := c.toNat_lt; omega)
      simpa [Nat.add_assoc, Nat.add_comm 1] using this
  simpa [beVal] using h l 0 0 (by omega)
theorem str_take (s : ByteArray) (k : Nat) (h : k < s.size) : s.data.toList.take (k + 1) = s.data.toList.take k ++ [s[k]] := by
  rw [List.take_succ_eq_append_getElem (by simpa using h)]; rfl
theorem str_cut (s : ByteArray) (a n : Nat) (h : a + n ≤ s.size) : (s.extract a (a + n)).data.toList = (s.data.toList.drop a).take n ∧ (s.extract a (a + n)).size = n := by
  have h1 : (s.extract a (a + n)).data.toList = (s.data.toList.drop a).take n := by rw [Lib.extract_data]; congr 1; omega
  refine ⟨h1, ?_⟩
  have hs : s.size = s.data.toList.length := by rw [Array.length_toList]; rfl
  show (s.extract a (a + n)).data.size = n
  rw [← Array.length_toList, h1, List.length_take, List.length_drop]
  omega

theorem or_byte (v : Nat) (c : UInt8) (hv : v < 72057594037927936) : bits .or .u64 ((v : Int) * 256) (IntKind.u64.wrap c.toNat) = ((v * 256 + c.toNat : Nat) : Int) := by
  have hc := c.toNat_lt
  have e1 : ((v : Int) * 256) = ((v * 256 : Nat) : Int) := by omega
  have e2 : IntKind.u64.wrap (c.toNat : Int) = ((c.toNat : Nat) : Int) := by
    show (c.toNat : Int) % 18446744073709551616 = _
    omega
  rw [e1, e2]
  have h3 : v * 256 ||| c.toNat = v * 256 + c.toNat := by
    have := Nat.shiftLeft_add_eq_or_of_lt (b := c.toNat) (i := 8) (by simpa using hc) v
    rw [Nat.shiftLeft_eq] at this
    simpa using this.symm
  show IntKind.u64.wrap ((BitVec.ofInt 64 ((v * 256 : Nat) : Int) ||| BitVec.ofInt 64 (c.toNat : Int)).toNat : Int) = _
  rw [BitVec.toNat_or, BitVec.ofInt_natCast, BitVec.ofInt_natCast, BitVec.toNat_ofNat, BitVec.toNat_ofNat, Nat.mod_eq_of_lt (by omega), Nat.mod_eq_of_lt (by omega), h3]
  show ((v * 256 + c.toNat : Nat) : Int) % 18446744073709551616 = _
  omega

set_option maxHeartbeats 400000 in
theorem number_at {w : World} {b a : Nat} {s : ByteArray} (h : Rd w b s a) (n : Nat) (hn : a + n ≤ s.size) (hn8 : n ≤ 8) :
    Calls Try.prog 56 #[.pointer (some ⟨b, 0, none⟩), .int .i64 n] w fun e w' => e = .returned (.int .u64 (beVal ((s.data.toList.drop a).take n))) ∧ Turn [b] w w' ∧ Rd w' b s (a + n) := by
  have HC := hide (take_at h n hn)
  clear h
  go_enter Try.func56, Try.ntmps56
  go_wp2_with (go_at_call 62; refine HC.out.mono ?_; rintro e w1 ⟨rfl, ht, hr⟩; have HR := hide hr; have HT := hide ht; clear hr ht)
  have hcut := str_cut s a n hn
  obtain ⟨t, ht⟩ : ∃ t, t = s.extract a (a + n) := ⟨_, rfl⟩
  rw [← ht] at hcut ⊢
  clear ht HC
  have HCut := hide hcut
  have ht8 : t.size ≤ 8 := by omega
  clear hcut
  go_loop [6, 13] (fun v i => ∃ k : Nat, k ≤ n ∧ i = .int .i64 k ∧ v = .int .u64 (beVal (t.data.toList.take k))) (fun _ i => n - (intOf i).toNat)
  case atStart => exact ⟨0, Nat.zero_le _, rfl, rfl⟩
  case round =>
    obtain ⟨k, hk, rfl, rfl⟩ := hrel
    by_cases hkn : k < n
    · have hlt : k < t.size := by have := HCut.out.2; omega
      have hb := beVal_lt (t.data.toList.take k)
      have hl : (t.data.toList.take k).length ≤ 7 := by have := List.length_take_le k t.data.toList; omega
      have hb2 : beVal (t.data.toList.take k) < 72057594037927936 := Nat.lt_of_lt_of_le hb (Nat.le_trans (Nat.pow_le_pow_right (by omega) hl) (by decide))
      have hsn : Hid (beVal (t.data.toList.take (k + 1)) = beVal (t.data.toList.take k) * 256 + t[k].toNat) := by rw [str_take t k hlt]; exact beVal_snoc _ _
      obtain ⟨v, hv⟩ : ∃ v, v = beVal (t.data.toList.take k) := ⟨_, rfl⟩
      rw [← hv] at hb2 hsn ⊢
      clear hv hb hl
      have hor := or_byte v t[k] hb2
      go_wp2
      exact ⟨⟨k + 1, by omega, by go_num, by rw [hsn.out]; go_num⟩, by simp [intOf]; omega⟩
    · obtain rfl : k = n := by omega
      go_wp2
      go_ret
      have e : t.data.toList.take k = t.data.toList := List.take_of_length_le (by rw [Array.length_toList]; exact Nat.le_of_eq HCut.out.2)
      have e2 : beVal (t.data.toList.take k) = beVal ((s.data.toList.drop a).take k) := by rw [e, HCut.out.1]
      exact ⟨congrArg (fun m : Nat => Ending.returned (.int .u64 m)) e2, HT.out, HR.out⟩
end Go.Proofs.Ytlnjemdnmndnfaa.Wire

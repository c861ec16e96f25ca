/- The document's writer of forms (gantryref02), walked: NewWriter, Bytes, Raw, U64, I64. -/
import Derived.Test.YtlnjemdnmndnfaaProg
import Derived.Test.YtlnjemdnmndnfaaRow
import Derived.Test.YtlnjemdnmndnfaaWire2
namespace Go.Proofs.Ytlnjemdnmndnfaa.RW
set_option linter.unusedVariables false
set_option linter.unusedSimpArgs false
open Go.RowKit K

/-- the document's writer in memory: what is written. -/
def Wr (w : World) (b : Nat) (bs : List UInt8) : Prop := Blk w b 108 #[.string (strOf bs)]
def Wrote (b : Nat) (bs : List UInt8) (w : World) (e : Ending) (w' : World) : Prop := e = .returned (.tuple #[]) ∧ Turn [b] w w' ∧ Wr w' b bs
theorem strOf_append (a b : List UInt8) : strOf a ++ strOf b = strOf (a ++ b) := by
  apply str_ext
  rw [ByteArray.data_append]
  simp [strOf]
set_option maxHeartbeats 400000 in
theorem new_any (w : World) : Calls Try.prog 49 #[] w fun e w' => e = .returned (.pointer (some ⟨w.heap.size, 0, none⟩)) ∧ Turn [] w w' ∧ Wr w' w.heap.size [] := by
  go_enter Try.func49, Try.ntmps49
  go_wp2
  go_ret
  exact ⟨rfl, (Turn.refl _ _).alloc _, Blk.new _ _ _⟩
set_option maxHeartbeats 400000 in
theorem bytes_at {w : World} {b : Nat} {bs : List UInt8} (h : Wr w b bs) : Calls Try.prog 51 #[.pointer (some ⟨b, 0, none⟩)] w fun e w' => e = .returned (.string (strOf bs)) ∧ w = w' := by
  have hc : w.cell? ⟨b, 0, none⟩ = some (.string (strOf bs)) := Blk.cell h 0
  clear h
  go_enter Try.func51, Try.ntmps51
  go_wp2
  go_ret
  exact ⟨rfl, rfl⟩
theorem add_run (bs : List UInt8) (s : ByteArray) (h : bs.length + s.size ≤ 140737488355328) (wx : World) : (Op.stringOp .add (strOf bs) s).run Try.prog wx = .ok (.string (strOf (bs ++ s.data.toList))) wx := by
  have h2 := strOf_append bs s.data.toList
  rw [strOf_self] at h2
  rw [run_string_add_sum wx (strOf bs) s (by rw [strOf_size]; omega), h2]
set_option maxHeartbeats 800000 in
theorem raw_at {w : World} {b : Nat} {bs : List UInt8} (h : Wr w b bs) (s : ByteArray) (hsz : bs.length + s.size ≤ 140737488355328) :
    Calls Try.prog 52 #[.pointer (some ⟨b, 0, none⟩), .string s] w (Wrote b (bs ++ s.data.toList) w) := by
  have hc : w.cell? ⟨b, 0, none⟩ = some (.string (strOf bs)) := Blk.cell h 0
  have hf := Blk.frozen h 0
  have hz := Blk.lt h
  have HB : Hid (Blk w b 108 #[.string (strOf bs)]) := hide h
  have hadd := add_run bs s hsz
  clear h
  obtain ⟨S, hS⟩ : ∃ S, S = strOf bs := ⟨_, rfl⟩
  rw [← hS] at hc hadd HB
  clear hS
  obtain ⟨S2, hS2⟩ : ∃ S2, S2 = strOf (bs ++ s.data.toList) := ⟨_, rfl⟩
  rw [← hS2] at hadd
  have HS2 := hide hS2
  clear hS2
  go_enter Try.func52, Try.ntmps52
  go_wp2_with fail
  all_goals
    go_end0
    refine ⟨rfl, ?_, ?_⟩
    · repeat first | exact Turn.refl _ _ | refine Turn.drew ?_ | refine Turn.setCell ?_ (.inl (by simp)) _
    · unfold Wr
      rw [← HS2.out]
      have := HB.out.set_ 0 (.string S2)
      simpa using this
set_option maxHeartbeats 800000 in
theorem number8 (w : World) (v : Nat) (hv : v < 18446744073709551616) : Calls Try.prog 65 #[.int .u64 v, .int .i64 8] w fun e w' => e = .returned (.string (strOf (Wire.beN 8 v))) ∧ Turn [] w w' := by
  have hmk : ∀ u : World, (Instr.makeSlice 36 (.int .i64 8) (.int .i64 8)).run Try.prog u = .ok (.slice (some ⟨u.heap.size, 0, none⟩) 8 8) (u.alloc (.cells #[.int .u8 0, .int .u8 0, .int .u8 0, .int .u8 0, .int .u8 0, .int .u8 0, .int .u8 0, .int .u8 0] 5)) := fun _ => by kernel_rfl
  have hshift : ∀ k, k ≤ 7 → v / 2 ^ (8 * (8 - (k + 1))) / 256 = v / 2 ^ (8 * (8 - k)) := fun k h => by
    rw [Nat.div_div_eq_div_mul, show (256 : Nat) = 2 ^ 8 from rfl, ← Nat.pow_add]
    congr 2
    omega
  have HSh := hide hshift
  clear hshift
  go_enter Try.func65, Try.ntmps65
  go_wp2_with fail
  clear hmk
  go_loopw [0, 6] (fun u i wr => ∃ (k : Nat) (cs : Array Value), k ≤ 8 ∧ i = .int .i64 ((k : Int) - 1) ∧ u = .int .u64 ((v / 2 ^ (8 * (8 - k)) : Nat) : Int) ∧ wr = w.alloc (.cells cs 5) ∧ cs.size = 8 ∧ ∀ j, k ≤ j → j < 8 → cs[j]? = some (.int .u8 (Wire.byteAt 8 v j))) (fun _ i _ => (intOf i + 1).toNat)
  case atStart => exact ⟨8, _, Nat.le_refl _, rfl, by simp, rfl, rfl, fun j h1 h2 => by omega⟩
  case round =>
    obtain ⟨k, cs, hk, rfl, rfl, rfl, hcs, hall⟩ := hrel
    have HA := hide hall
    clear hall
    rcases Nat.eq_zero_or_pos k with rfl | hpos
    · have hrd : Reads (w.alloc (.cells cs 5)) 1 (some ⟨w.heap.size, 0, none⟩) 8 (bytesV (Wire.beN 8 v)) := by
        refine ⟨by rw [bytesV_length, Wire.beN_length], fun _ => ⟨w.heap.size, 0, rfl, by simp, fun j u hu => ?_⟩⟩
        have hj : j < 8 := by
          have := (List.getElem?_eq_some_iff.1 hu).1
          rwa [bytesV_length, Wire.beN_length] at this
        rw [Nat.zero_add, (Blk.new w 5 cs).cell j, HA.out j (Nat.zero_le _) hj]
        simp [bytesV, Wire.beN, hj] at hu
        have hb : Wire.byteAt 8 v j < 256 := Nat.mod_lt _ (by omega)
        have e : ((Wire.byteAt 8 v j : Nat) : Int) % 256 = Wire.byteAt 8 v j := by omega
        rw [← hu, e]
      have hcv := run_str_of_bytes (P := Try.prog) _ 36 9 5 Try.underlying36 Try.underlying5 Try.underlying9 _ 8 8 _ hrd
      clear hrd
      go_wp2_with fail
      go_ret
      exact ⟨rfl, (Turn.refl _ _).alloc _⟩
    · obtain ⟨i, rfl⟩ : ∃ i, k = i + 1 := ⟨k - 1, by omega⟩
      rw [show (((i + 1 : Nat) : Int) - 1) = (i : Int) by omega]
      have hi : i < 8 := by omega
      have hi' : (i : Int) < 8 := by omega
      have hc := (Blk.new w 5 cs).cell i
      have hc2 : cs[i]? = some cs[i] := Array.getElem?_eq_getElem (by omega)
      have hS : Hid (v / 2 ^ (8 * (8 - i)) = v / 2 ^ (8 * (8 - (i + 1))) / 256) := hide (HSh.out i (by omega)).symm
      have hB : Hid (Wire.byteAt 8 v i = v / 2 ^ (8 * (8 - (i + 1))) % 256) := hide (by unfold Wire.byteAt; rw [show 8 * (8 - 1 - i) = 8 * (8 - (i + 1)) by omega])
      have hle : v / 2 ^ (8 * (8 - (i + 1))) ≤ v := Nat.div_le_self _ _
      obtain ⟨m, hm⟩ : ∃ m, m = v / 2 ^ (8 * (8 - (i + 1))) := ⟨_, rfl⟩
      rw [← hm] at hS hB hle ⊢
      clear hm
      have hnew : ∀ j, i ≤ j → j < 8 → (cs.setIfInBounds i (.int .u8 ((m : Int) % 256)))[j]? = some (.int .u8 (Wire.byteAt 8 v j)) := by
        intro j h1 h2
        by_cases hjk : j = i
        · subst hjk
          rw [hB.out]
          simp [hcs, h2]
        · rw [Array.getElem?_setIfInBounds_ne (Ne.symm hjk)]
          exact HA.out j (by omega) h2
      have HN := hide hnew
      clear hnew
      go_wp2_with fail
      exact ⟨⟨i, _, by omega, rfl, by rw [hS.out]; go_num, rfl, by simpa using hcs, HN.out⟩, by simp [intOf]⟩
set_option maxHeartbeats 1600000 in
theorem u64_at {w : World} {b : Nat} {bs : List UInt8} (h : Wr w b bs) (v : Nat) (hv : v < 18446744073709551616) (hsz : bs.length + 8 ≤ 140737488355328) :
    Calls Try.prog 59 #[.pointer (some ⟨b, 0, none⟩), .int .u64 v] w (Wrote b (bs ++ Wire.beN 8 v) w) := by
  have hc : w.cell? ⟨b, 0, none⟩ = some (.string (strOf bs)) := Blk.cell h 0
  have hz := Blk.lt h
  have HB : Hid (∀ wx, Turn [] w wx → Blk wx b 108 #[.string (strOf bs)]) := hide (fun wx ht => Blk.turn (F := []) h ht (by simp))
  have hadd := add_run bs (strOf (Wire.beN 8 v)) (by rw [strOf_size, Wire.beN_length]; exact hsz)
  rw [strOf_list] at hadd
  have HN := hide (fun wx => number8 wx v hv)
  clear h
  obtain ⟨S, hS⟩ : ∃ S, S = strOf bs := ⟨_, rfl⟩
  rw [← hS] at hc hadd HB
  clear hS
  obtain ⟨S1, hS1⟩ : ∃ S1, S1 = strOf (Wire.beN 8 v) := ⟨_, rfl⟩
  rw [← hS1] at hadd HN
  clear hS1
  obtain ⟨S2, hS2⟩ : ∃ S2, S2 = strOf (bs ++ Wire.beN 8 v) := ⟨_, rfl⟩
  rw [← hS2] at hadd
  have HS2 := hide hS2
  clear hS2
  go_enter Try.func59, Try.ntmps59
  go_wp2_with fail
  go_region_with (go_at_call 65; refine (HN.out _).mono ?_; rintro e w1 ⟨rfl, ht⟩; have hB1 := HB.out w1 (Turn.pre (w := w) (by repeat first | exact Turn.refl _ _ | refine Turn.drew ?_ | refine Turn.drewN ?_ _) ht); have HT1 := hide (Turn.pre (w := w) (by repeat first | exact Turn.refl _ _ | refine Turn.drew ?_ | refine Turn.drewN ?_ _) ht); have HB1 := hide hB1; have hc1 : w1.cell? ⟨b, 0, none⟩ = some (.string S) := hB1.cell 0; have hf1 := hB1.frozen 0; have hz1 := hB1.lt; clear ht hB1)
  all_goals
    go_wp2_with fail
    go_end0
    refine ⟨rfl, ?_, ?_⟩
    · repeat first | exact HT1.out.mono (by simp) | refine Turn.drew ?_ | refine Turn.setCell ?_ (.inl (by simp)) _
    · unfold Wr
      rw [← HS2.out]
      have := HB1.out.set_ 0 (.string S2)
      simpa using this
set_option maxHeartbeats 400000 in
theorem i64_at {w : World} {b : Nat} {bs : List UInt8} (h : Wr w b bs) (x : Int) (hsz : bs.length + 8 ≤ 140737488355328) :
    Calls Try.prog 50 #[.pointer (some ⟨b, 0, none⟩), .int .i64 x] w (Wrote b (bs ++ Wire.be8 x) w) := by
  obtain ⟨m, hm⟩ := Int.eq_ofNat_of_zero_le (Int.emod_nonneg x (show (18446744073709551616 : Int) ≠ 0 by omega))
  have hlt : m < 18446744073709551616 := by omega
  have hb : Wire.be8 x = Wire.beN 8 m := by unfold Wire.be8; rw [hm]; rfl
  rw [hb]
  have hw : IntKind.u64.wrap x = (m : Int) := by rw [← hm]; rfl
  have HC := hide (u64_at h m hlt hsz)
  clear h hb
  go_enter Try.func50, Try.ntmps50
  go_wp2_with (go_at_call 59; refine HC.out.mono ?_; rintro e w1 ⟨rfl, ht, hw1⟩)
  go_end0
  exact ⟨rfl, ht, hw1⟩
end Go.Proofs.Ytlnjemdnmndnfaa.RW

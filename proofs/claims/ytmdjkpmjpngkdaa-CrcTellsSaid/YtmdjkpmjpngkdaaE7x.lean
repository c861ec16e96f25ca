/- A text with bits turned. -/
import Derived.Test.YtmdjkpmjpngkdaaE4x
import Derived.Lib.ConvBytes
namespace Go.Proofs.Ytmdjkpmjpngkdaa
set_option linter.unusedVariables false
set_option linter.unusedSimpArgs false
open Go.RowKit K

/-- a text with the bits of a mask turned in a byte. -/
def turnL (l : List UInt8) (k : Nat) (m : UInt8) : List UInt8 := l.set k (l.getD k 0 ^^^ m)
theorem turnL_length (l : List UInt8) (k : Nat) (m : UInt8) : (turnL l k m).length = l.length := by simp [turnL]
theorem turn_bytes (w : World) (s : ByteArray) : Turn [] w (Lib.bytesWorld w 5 s) :=
  ⟨rfl, rfl, rfl, by rw [Lib.bytesWorld_size]; omega, fun k hk _ => Lib.bytesWorld_at_old w 5 s k hk⟩
theorem bytes_frozen (w : World) (s : ByteArray) (k : Nat) (hk : k < s.size) : (Lib.bytesWorld w 5 s).frozen? ⟨w.heap.size, k, none⟩ = false := by
  have hsz : s.size ≤ (Lib.bytesCells w 5 s).size := by
    unfold Lib.bytesCells
    rw [Array.size_append, Array.size_map]
    show s.data.size ≤ _
    omega
  simp only [World.frozen?, Lib.bytesWorld_at_new]
  simp
  omega
theorem reads_turned (w : World) (s : ByteArray) (k : Nat) (hk : k < s.size) (m : UInt8) :
    Reads ((Lib.bytesWorld w 5 s).setCell ⟨w.heap.size, k, none⟩ (.int .u8 (s.data.toList.getD k 0 ^^^ m).toNat)) 1 (some ⟨w.heap.size, 0, none⟩) s.size (bytesV (turnL s.data.toList k m)) := by
  refine ⟨by rw [bytesV_length, turnL_length, Nat.mul_one]; rfl, fun _ => ⟨w.heap.size, 0, rfl, by simp [World.setCell, Lib.bytesWorld_size], fun j v hv => ?_⟩⟩
  have hj : j < s.size := by
    have := (List.getElem?_eq_some_iff.1 hv).1
    rw [bytesV_length, turnL_length] at this
    exact this
  rw [Nat.zero_add]
  by_cases hjk : j = k
  · subst hjk
    have hc := Lib.bytesWorld_cell w 5 s j hk
    have h1 : ((Lib.bytesWorld w 5 s).setCell ⟨w.heap.size, j, none⟩ (.int .u8 (s.data.toList.getD j 0 ^^^ m).toNat)).cell? ⟨w.heap.size, j, none⟩ = some (.int .u8 (s.data.toList.getD j 0 ^^^ m).toNat) := by
      simp [World.setCell, World.cell?, Lib.bytesWorld_at_new, Array.getElem?_modify, Lib.bytesCells, Array.getElem?_append, hk]
    rw [h1]
    have hl : j < s.data.toList.length := hk
    have h2 : (bytesV (turnL s.data.toList j m))[j]? = some (.int .u8 (s.data.toList.getD j 0 ^^^ m).toNat) := by
      unfold bytesV turnL
      rw [List.getElem?_map, List.getElem?_set_self hl]
      rfl
    rw [h2] at hv
    exact hv
  · have h1 : ((Lib.bytesWorld w 5 s).setCell ⟨w.heap.size, k, none⟩ (.int .u8 (s.data.toList.getD k 0 ^^^ m).toNat)).cell? ⟨w.heap.size, j, none⟩ = (Lib.bytesWorld w 5 s).cell? ⟨w.heap.size, j, none⟩ := by
      have : ¬ k = j := fun e => hjk e.symm
      simp [World.setCell, World.cell?, Lib.bytesWorld_at_new, Array.getElem?_modify, this]
    rw [h1, Lib.bytesWorld_cell w 5 s j hj]
    have hjl : j < s.data.toList.length := hj
    have : ¬ k = j := fun e => hjk e.symm
    simp [bytesV, turnL, this] at hv
    obtain ⟨b, hb, rfl⟩ := hv
    simp [List.getD, hb]
set_option maxHeartbeats 400000 in
theorem turned_any (w : World) (s : ByteArray) (k : Nat) (m : UInt8) (hs : s.size ≤ 140737488351232) (hk : k < s.size) : Calls Try.prog 21 #[.string s, .int .i64 k, .int .u8 m.toNat] w fun e w' => e = .returned (.string (strOf (turnL s.data.toList k m))) ∧ Turn [] w w' := by
  have hk' : (k : Int) < s.size := by omega
  have hk0 : (0 : Int) ≤ k := by omega
  go_enter Try.func21, Try.ntmps21
  go_wp2_with fail
  rw [Lib.run_convert_string_bytes w 9 55 5 s Try.underlying9 Try.underlying55 Try.underlying5]
  have hc := Lib.bytesWorld_cell w 5 s k hk
  have hf := bytes_frozen w s k hk
  have hxor : bits .xor .u8 ((s.data.toList.getD k 0).toNat : Int) (m.toNat : Int) = ((s.data.toList.getD k 0 ^^^ m).toNat : Int) := by
    rw [u8_xor_nat _ _ (by have := (s.data.toList.getD k 0).toNat_lt; omega) (by have := m.toNat_lt; omega), UInt8.toNat_xor]
  have hrd := reads_turned w s k hk m
  rw [UInt8.toNat_xor] at hrd
  have HT := hide (turn_bytes w s)
  have HRD := hide hrd
  clear hrd
  generalize s.data.toList.getD k 0 = old at hc hxor HRD
  generalize Lib.bytesWorld w 5 s = w2 at hc hf HT HRD ⊢
  go_wp2_with fail
  rw [run_str_of_bytes _ 55 9 5 Try.underlying55 Try.underlying5 Try.underlying9 _ _ _ _ HRD.out]
  go_wp2_with fail
  go_ret
  exact ⟨rfl, HT.out.setCell (.inr (Nat.le_refl _)) _⟩
end Go.Proofs.Ytmdjkpmjpngkdaa

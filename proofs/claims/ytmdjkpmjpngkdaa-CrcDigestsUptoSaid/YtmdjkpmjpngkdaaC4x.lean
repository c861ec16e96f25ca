/- The four bytes that make one sum another: the document's Fix. -/
import Derived.Test.YtmdjkpmjpngkdaaC3x
namespace Go.Proofs.Ytmdjkpmjpngkdaa
set_option linter.unusedVariables false
set_option linter.unusedSimpArgs false
open Go.RowKit K

/-- the register before a byte 0. -/
def U (x : BitVec 32) : BitVec 32 := unbits 8 x
def back4 : Nat → BitVec 32 → BitVec 32
  | 0, x => x
  | n + 1, x => U (back4 n x)
def fixR (x y : BitVec 32) : BitVec 32 := ~~~ (back4 4 (~~~ y) ^^^ x)
def fixL (r : BitVec 32) : List UInt8 := [UInt8.ofNat (r.toNat % 256), UInt8.ofNat ((r >>> 8).toNat % 256), UInt8.ofNat ((r >>> 16).toNat % 256), UInt8.ofNat ((r >>> 24).toNat % 256)]
def fixS (r : BitVec 32) : ByteArray := strOf (fixL r)
theorem byte_u (x : BitVec 32) : u x % 256 = ((UInt8.ofNat (x.toNat % 256)).toNat : Int) := by
  unfold u
  rw [UInt8.toNat_ofNat']
  omega
theorem fix_str (w : World) (q : BitVec 32) : Sem.run Try.prog (convert 55 9 (.slice (some ⟨w.heap.size, 0, none⟩) 4 4)) (w.alloc (.cells #[.int .u8 (u q % 256), .int .u8 (u (q >>> 8) % 256), .int .u8 (u (q >>> 16) % 256), .int .u8 (u (q >>> 24) % 256)] 5)) =
    .ok (.string (fixS q)) (w.alloc (.cells #[.int .u8 (u q % 256), .int .u8 (u (q >>> 8) % 256), .int .u8 (u (q >>> 16) % 256), .int .u8 (u (q >>> 24) % 256)] 5)) := by
  have hr := reads_blk (w := w.alloc (.cells #[.int .u8 (u q % 256), .int .u8 (u (q >>> 8) % 256), .int .u8 (u (q >>> 16) % 256), .int .u8 (u (q >>> 24) % 256)] 5)) (size := 1) (n := 4) (Blk.new w 5 _) rfl
  refine run_str_of_bytes _ 55 9 5 Try.underlying55 Try.underlying5 Try.underlying9 _ _ _ (fixL q) ?_
  have he : bytesV (fixL q) = [.int .u8 (u q % 256), .int .u8 (u (q >>> 8) % 256), .int .u8 (u (q >>> 16) % 256), .int .u8 (u (q >>> 24) % 256)] := by
    rw [byte_u, byte_u, byte_u, byte_u]
    rfl
  rw [he]
  exact hr
set_option maxHeartbeats 400000 in
theorem rfix_any (w : World) (x y : BitVec 32) : Calls Try.prog 18 #[.int .u32 (u x), .int .u32 (u y)] w fun e w' => e = .returned (.string (fixS (fixR x y))) ∧ Turn [] w w' := by
  go_enter Try.func18, Try.ntmps18
  go_wp2_with fail
  go_loopw [5, 6] (fun r i wr => ∃ k : Nat, k ≤ 4 ∧ i = .int .i64 k ∧ r = .int .u32 (u (back4 k (~~~ y))) ∧ wr = w) (fun _ i _ => 4 - (intOf i).toNat)
  case atStart => exact ⟨0, Nat.zero_le _, rfl, rfl, rfl⟩
  case round =>
    obtain ⟨k, hk, rfl, rfl, rfl⟩ := hrel
    by_cases hlt : k < 4
    · have hlt' : (k : Int) < 4 := by omega
      go_wp2_with fail
      refine (back_any _ _).mono ?_
      rintro e w1 ⟨rfl, rfl⟩
      go_wp2_with fail
      exact ⟨⟨k + 1, by omega, by go_num, rfl, trivial⟩, by simp [intOf]; omega⟩
    · obtain rfl : k = 4 := by omega
      go_wp2_with fail
      rw [fix_str]
      go_wp2_with fail
      go_ret
      exact ⟨rfl, (Turn.refl _ _).alloc _⟩
end Go.Proofs.Ytmdjkpmjpngkdaa

/- The statement over texts: Sums. -/
import Derived.Test.YtmdjkpmjpngkdaaE1x
namespace Go.Proofs.Ytmdjkpmjpngkdaa
set_option linter.unusedVariables false
set_option linter.unusedSimpArgs false
open Go.RowKit K

def texts (L : List ByteArray) : List Value := L.map Value.string
theorem reads_text {w : World} {A : Option Addr} {l : List ByteArray} (h : Reads w 1 A l.length (texts l)) {k : Nat} (hk : k < l.length) :
    ∃ g off, A = some ⟨g, off, none⟩ ∧ g < w.heap.size ∧ w.cell? ⟨g, off + k, none⟩ = some (.string l[k]) := by
  obtain ⟨g, off, hA, hg, hc⟩ := h.2 (by omega)
  exact ⟨g, off, hA, hg, hc k _ (by simp [texts, hk])⟩
set_option maxHeartbeats 400000 in
theorem sums_any (w : World) (A : Option Addr) (c : Nat) (L : List ByteArray) (x : BitVec 32) (hr : Reads w 1 A L.length (texts L)) (hsz : L.length * 16 ≤ 140737488351232) (hs : ∀ s ∈ L, s.size ≤ 140737488351232) :
    Calls Try.prog 3 #[.slice A L.length c, .int .u32 (u x)] w fun e w' => e = .returned (.bool true) ∧ Turn [] w w' := by
  have HR := hide hr
  have HS := hide hs
  clear hr hs
  go_enter Try.func3, Try.ntmps3
  go_wp2_with fail
  refine (awake_any _).mono ?_
  rintro e w1 ⟨rfl, ht1⟩
  have HT1 := hide ht1
  clear ht1
  go_wp2_with fail
  go_loopw [5] (fun i wr => ∃ k : Nat, k ≤ L.length ∧ i = .int .i64 k ∧ Turn [] w wr) (fun i _ => L.length - (intOf i).toNat)
  case atStart => exact ⟨0, Nat.zero_le _, rfl, HT1.out⟩
  case round =>
    clear HT1
    obtain ⟨k, hk, rfl, ht⟩ := hrel
    by_cases hlt : k < L.length
    · obtain ⟨g, off, rfl, hg, hx⟩ := reads_text (HR.out.turn0 ht) hlt
      have hlt' : (k : Int) < (L.length : Int) := by omega
      have hsk : L[k].size ≤ 9223372036854775807 := Nat.le_trans (HS.out L[k] (by simp)) (by decide)
      have HT := hide ht
      clear ht
      go_wp2_with fail
      refine wp_region_later (w0 := wr) (Turn.refl _ _) (by kernel_rfl) (by kernel_rfl) ?_
      repeat (go_big_quiet_step (first | (go_at_call 13; exact calls_later (sum_any _ _ hsk)) | (go_at_call 14; exact calls_later_same ((rsum_any _ _ hsk).mono fun _ _ h => ⟨h.1, h.2.symm⟩)) | (go_at_call 15; exact calls_later (more_any _ x _ hsk)) | (go_at_call 16; exact calls_later_same ((rmore_any _ x _ hsk).mono fun _ _ h => ⟨h.1, h.2.symm⟩))))
      refine wpQuiet_nil ?_
      intro w8 hw8
      have HT8 := hide (later_out hw8)
      clear hw8
      go_wp2_with fail
      exact ⟨⟨k + 1, by omega, by go_num, HT.out.trans0 HT8.out⟩, by simp [intOf]; omega⟩
    · go_wp2_with fail
      go_ret
      exact ⟨rfl, ht⟩
end Go.Proofs.Ytmdjkpmjpngkdaa

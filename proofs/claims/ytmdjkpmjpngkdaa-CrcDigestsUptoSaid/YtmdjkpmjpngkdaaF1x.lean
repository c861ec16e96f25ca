/- Is a digest that of these bytes: seen. -/
import Derived.Test.YtmdjkpmjpngkdaaE1x
namespace Go.Proofs.Ytmdjkpmjpngkdaa
set_option linter.unusedVariables false
set_option linter.unusedSimpArgs false
open Go.RowKit K

set_option maxHeartbeats 400000 in
theorem seen_any (w : World) (b : Nat) (s : ByteArray) (hs : s.size ≤ 9223372036854775807) (h : Dig w b (more 0#32 s) s.size) : Calls Try.prog 31 #[.pointer (some ⟨b, 0, none⟩), .string s] w fun e w' => e = .returned (.bool true) ∧ w' = w := by
  have H := hide h
  clear h
  go_enter Try.func31, Try.ntmps31
  go_wp2_with fail
  refine (dsum_any _ b _ _ H.out).mono ?_
  rintro e w1 ⟨rfl, rfl⟩
  go_wp2_with fail
  refine (rsum_any _ s hs).mono ?_
  rintro e w2 ⟨rfl, rfl⟩
  go_wp2_with fail
  refine (dlen_any _ b _ _ H.out).mono ?_
  rintro e w3 ⟨rfl, rfl⟩
  go_wp2_with fail
  go_ret
  exact ⟨rfl, rfl⟩
end Go.Proofs.Ytmdjkpmjpngkdaa

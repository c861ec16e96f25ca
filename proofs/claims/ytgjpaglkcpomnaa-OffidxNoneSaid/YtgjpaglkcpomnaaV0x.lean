/- 'same' of two lists that are one, walked. -/
import Derived.Test.YtgjpaglkcpomnaaW9x
namespace Go.Proofs.Ytgjpaglkcpomnaa
set_option linter.unusedVariables false
set_option linter.unusedSimpArgs false
open Go.RowKit K

set_option maxHeartbeats 1600000 in
set_option maxRecDepth 100000 in
theorem same_eq {w : World} {A A' : Option Addr} {L : List En} (c c' : Nat) (hr : Reads w 2 A L.length (ents L)) (hr' : Reads w 2 A' L.length (ents L)) (hsz : L.length * 16 ≤ 140737488355328) :
    Calls Try.prog 24 #[.slice A L.length c, .slice A' L.length c'] w (Same (.bool true) w) := by
  have HR := hide hr
  have HR' := hide hr'
  clear hr hr'
  have hne : ((L.length : Int) != (L.length : Int)) = false := by simp
  go_enter Try.func24, Try.ntmps24
  go_wp2_with fail
  go_loopw [5] (fun i wr => ∃ k : Nat, k ≤ L.length ∧ i = .int .i64 k ∧ Turn [] w wr) (fun i _ => L.length - (intOf i).toNat)
  case atStart => exact ⟨0, Nat.zero_le _, rfl, Turn.refl _ _⟩
  case round =>
    obtain ⟨k, hk, rfl, ht⟩ := hrel
    by_cases hlt : k < L.length
    · obtain ⟨g, off, rfl, hg, hx, hy⟩ := reads_ent (HR.out.turn0 ht) hlt
      obtain ⟨g', off', rfl, hg', hx', hy'⟩ := reads_ent (HR'.out.turn0 ht) hlt
      have hlt' : (k : Int) < (L.length : Int) := by omega
      have HT := hide ht
      clear ht
      go_wp2_with fail
      go_quiet (fail)
      go_wp2_with fail
      exact ⟨⟨k + 1, by omega, by go_num, HT.out.drewN _⟩, by simp [intOf]; omega⟩
    · go_wp2_with fail
      go_ret
      exact ⟨rfl, ht⟩
end Go.Proofs.Ytgjpaglkcpomnaa

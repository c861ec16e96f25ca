/- What Find comes to, walked: a search of the half. -/
import Derived.Test.YtgjpaglkcpomnaaW2x
namespace Go.Proofs.Ytgjpaglkcpomnaa
set_option linter.unusedVariables false
set_option linter.unusedSimpArgs false
open Go.RowKit K

/-- the keys rise. -/
def Rise (l : List En) : Prop := ∀ i j (hj : j < l.length) (hi : i < j), (l[i]'(by omega)).1 < l[j].1
/-- all entries ahead of number i are at most key, none from j on; k looks have been taken. -/
structure Srch (l : List En) (key : Int) (k i j : Nat) : Prop where
  ij : i ≤ j
  jn : j ≤ l.length
  lo : ∀ m (h : m < l.length), m < i → l[m].1 ≤ key
  hi : ∀ m (h : m < l.length), j ≤ m → key < l[m].1
  few : 2 ^ k * (j - i) ≤ l.length
  was : k = 0 ∨ 2 ^ (k - 1) ≤ l.length
  some_ : k = 0 → i = 0 ∧ j = l.length
theorem Srch.start (l : List En) (key : Int) : Srch l key 0 0 l.length :=
  ⟨by omega, by omega, fun _ _ h => by omega, fun _ _ _ => by omega, by simp, .inl rfl, fun _ => ⟨rfl, rfl⟩⟩
theorem Srch.k_lt {l : List En} {key : Int} {k i j : Nat} (h : Srch l key k i j) (hl : l.length ≤ 9223372036854775807) : k < 64 := by
  rcases h.was with h | h
  · omega
  · rcases Nat.lt_or_ge k 64 with h1 | h1
    · exact h1
    · have := Nat.pow_le_pow_right (n := 2) (by omega) (show 63 ≤ k - 1 by omega)
      omega
theorem pow_half {k d d' n : Nat} (h : 2 ^ k * d ≤ n) (h2 : d' * 2 ≤ d) : 2 ^ (k + 1) * d' ≤ n := by
  rw [Nat.pow_succ, Nat.mul_assoc, Nat.mul_comm 2 d']
  exact Nat.le_trans (Nat.mul_le_mul_left _ h2) h
theorem Srch.right {l : List En} {key : Int} {k i j m : Nat} (h : Srch l key k i j) (hr : Rise l) (hij : i < j) (hm : m = (i + j) / 2) (hml : m < l.length) (hk : l[m].1 ≤ key) : Srch l key (k + 1) (m + 1) j := by
  have h1 := h.jn
  refine ⟨by omega, h1, ?_, h.hi, pow_half h.few (by omega), .inr ?_, by omega⟩
  · intro m' hm' hlt
    rcases Nat.lt_or_ge m' m with h2 | h2
    · have := hr m' m hml h2; omega
    · have : m' = m := by omega
      subst this; exact hk
  · have := h.few
    have h3 : 2 ^ k * 1 ≤ 2 ^ k * (j - i) := Nat.mul_le_mul_left _ (by omega)
    simp; omega
theorem Srch.left {l : List En} {key : Int} {k i j m : Nat} (h : Srch l key k i j) (hr : Rise l) (hij : i < j) (hm : m = (i + j) / 2) (hml : m < l.length) (hk : key < l[m].1) : Srch l key (k + 1) i m := by
  have h1 := h.jn
  refine ⟨by omega, by omega, h.lo, ?_, pow_half h.few (by omega), .inr ?_, by omega⟩
  · intro m' hm' hlt
    rcases Nat.lt_or_ge m m' with h2 | h2
    · have := hr m m' hm' h2; omega
    · have : m' = m := by omega
      subst this; exact hk
  · have := h.few
    have h3 : 2 ^ k * 1 ≤ 2 ^ k * (j - i) := Nat.mul_le_mul_left _ (by omega)
    simp; omega

def Found (l : List En) (key : Int) (w : World) (e : Ending) (w' : World) : Prop :=
  ∃ i k : Nat, Srch l key k i i ∧ e = .returned (.tuple #[.agg #[.int .i64 (entryOf l ((i : Int) - 1)).1.1, .int .i64 (entryOf l ((i : Int) - 1)).1.2], .bool (entryOf l ((i : Int) - 1)).2, .int .i64 k]) ∧ Turn [] w w'

set_option maxHeartbeats 1600000 in
set_option maxRecDepth 100000 in
theorem find_at {w : World} {F : List Nat} {b : Nat} {l : List En} (h : Idx w F b l) (hr : Rise l) (key : Int) :
    Calls Try.prog 13 #[.pointer (some ⟨b, 0, none⟩), .int .i64 key] w (Found l key w) := by
  obtain ⟨A, c, hc0, hrd, hm, hb⟩ := h.cell
  have H := hide (fun wx (ht : Turn [] w wx) => h.turn0 ht)
  have HR := hide hr
  have HRd := hide hrd
  clear h hr hrd
  go_enter Try.func13, Try.ntmps13
  go_wp2_with (go_at_call 12; refine (len_at (H.out _ ((Turn.refl _ _).alloc _))).mono ?_; rintro e w' ⟨rfl, rfl⟩)
  go_loop [7, 8, 9] (fun t lo hi => ∃ k i j : Nat, Srch l key k i j ∧ t = .int .i64 k ∧ lo = .int .i64 i ∧ hi = .int .i64 j) (fun _ lo hi => (intOf hi - intOf lo).toNat)
  case atStart => exact ⟨0, 0, l.length, Srch.start l key, rfl, rfl, rfl⟩
  case round =>
    obtain ⟨k, i, j, hs, rfl, rfl, rfl⟩ := hrel
    have hij := hs.ij
    have hjn := hs.jn
    have hk := hs.k_lt (by omega)
    have HS := hide hs
    clear hs
    by_cases hlt : i < j
    · obtain ⟨m, hm0⟩ : ∃ m, m = (i + j) / 2 := ⟨_, rfl⟩
      have hml : m < l.length := by omega
      obtain ⟨g, off, rfl, hg, hx, hy⟩ := reads_ent HRd.out hml
      have HM := hide hm0
      have hmi : ((i : Int) + (j : Int)) / 2 = (m : Int) := by omega
      clear hm0
      by_cases hle : l[m].1 ≤ key
      · go_wp2
        go_round
        case rel => exact ⟨k + 1, m + 1, j, HS.out.right HR.out hlt HM.out hml hle, by go_num, by go_num, rfl⟩
        case measure => have := HM.out; simp [intOf]; omega
      · go_wp2
        go_round
        case rel => exact ⟨k + 1, i, m, HS.out.left HR.out hlt HM.out hml (by omega), by go_num, rfl, by rw [hmi]⟩
        case measure => have := HM.out; simp [intOf]; omega
    · have hee : i = j := by omega
      subst hee
      go_wp2_with (go_at_call 34; refine (entry_at (H.out _ ((Turn.refl _ _).alloc _)) _).mono ?_; rintro e w1 ⟨rfl, ht⟩; obtain ⟨hc, hf, hz⟩ := box_kept ht)
      refine bodyPost_ret (v := .tuple #[.agg #[.int .i64 (entryOf l ((i : Int) - 1)).1.1, .int .i64 (entryOf l ((i : Int) - 1)).1.2], .bool (entryOf l ((i : Int) - 1)).2, .int .i64 k]) (by simp [results, Try.results13, go_sem, hc, hf, hz]) rfl ⟨i, k, HS.out, rfl, ?_⟩
      repeat first | exact turn_box ht | refine Turn.alloc ?_ _ | refine Turn.setCell ?_ (.inr (by first | exact Nat.le_refl _ | (simp; done) | omega)) _

end Go.Proofs.Ytgjpaglkcpomnaa

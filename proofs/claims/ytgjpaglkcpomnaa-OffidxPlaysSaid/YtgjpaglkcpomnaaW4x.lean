/- The chapter's own example: the first lines of each law. -/
import Derived.Test.YtgjpaglkcpomnaaW3x
namespace Go.Proofs.Ytgjpaglkcpomnaa
set_option linter.unusedVariables false
set_option linter.unusedSimpArgs false
open Go.RowKit K

def addE (l : List En) (e : En) : Int := if fits l e = true then 0 else 30
def addL (l : List En) (e : En) : List En := if fits l e = true then l ++ [e] else l
def AddIs (E : Int) (L : List En) (F : List Nat) (b : Nat) (w : World) (e : Ending) (w' : World) : Prop :=
  ∃ F', e = .returned (.int .i64 E) ∧ Turn F w w' ∧ Idx w' F' b L ∧ ∀ k ∈ F', k ∈ F ∨ w.heap.size ≤ k

theorem fits_iff {l : List En} {k a p q : Int} {ok : Bool} (hl : lastOf l = ((p, q), ok)) : fits l (k, a) = true ↔ 0 ≤ k ∧ 0 ≤ a ∧ (ok = false ∨ (p < k ∧ q < a)) := by
  unfold fits
  rw [hl]
  rcases Nat.eq_zero_or_pos l.length with h0 | h0
  · have : l = [] := List.eq_nil_of_length_eq_zero h0
    subst this
    rw [lastOf_nil] at hl
    simp at hl
    simp [← hl.2]
    
  · rw [lastOf_pos h0] at hl
    simp at hl
    have : l ≠ [] := by rintro rfl; simp at h0
    obtain ⟨_, rfl⟩ := hl
    simp [this, and_assoc]
theorem add_is {w : World} {F : List Nat} {b : Nat} {l : List En} (h : Idx w F b l) (k a : Int) (hsz : (l.length + 1) * 16 ≤ 140737488355328) {E : Int} {L : List En} (hE : addE l (k, a) = E) (hL : addL l (k, a) = L) :
    Calls Try.prog 31 #[.pointer (some ⟨b, 0, none⟩), .agg #[.int .i64 k, .int .i64 a]] w (AddIs E L F b w) := by
  subst hE hL
  obtain ⟨⟨⟨p, q⟩, ok⟩, hl⟩ : ∃ r, lastOf l = r := ⟨_, rfl⟩
  have hf := fits_iff (k := k) (a := a) hl
  unfold addE addL
  by_cases hy : fits l (k, a) = true
  · rw [if_pos hy, if_pos hy]
    have h3 := hf.1 hy
    refine (add_yes h k a p q ok hl h3.1 h3.2.1 h3.2.2 hsz).mono ?_
    rintro e w' ⟨he, ht, F', hx, hF⟩
    exact ⟨F', he, ht, hx, hF⟩
  · rw [if_neg hy, if_neg hy]
    have h3 : k < 0 ∨ a < 0 ∨ (ok = true ∧ (k ≤ p ∨ a ≤ q)) := by
      rcases Int.lt_or_le k 0 with h1 | h1
      · exact .inl h1
      · rcases Int.lt_or_le a 0 with h2 | h2
        · exact .inr (.inl h2)
        · refine .inr (.inr ?_)
          have h4 : ¬ (ok = false ∨ (p < k ∧ q < a)) := fun hc => hy (hf.2 ⟨h1, h2, hc⟩)
          cases ok
          · exact absurd (.inl rfl) h4
          · refine ⟨rfl, ?_⟩
            rcases Int.lt_or_le p k with h5 | h5
            · rcases Int.lt_or_le q a with h6 | h6
              · exact absurd (.inr ⟨h5, h6⟩) h4
              · exact .inr h6
            · exact .inl h5
    refine (add_no h k a p q ok hl h3).mono ?_
    rintro e w' ⟨he, ht⟩
    exact ⟨F, he, ht.mono (by simp), h.turn0 ht, fun k hk => .inl hk⟩

def FoundIs (a b : Int) (ok : Bool) (lo hi : Int) (w : World) (e : Ending) (w' : World) : Prop :=
  ∃ k : Int, lo ≤ k ∧ k ≤ hi ∧ e = .returned (.tuple #[.agg #[.int .i64 a, .int .i64 b], .bool ok, .int .i64 k]) ∧ Turn [] w w'
theorem look3 {k : Nat} (h : k = 0 ∨ 2 ^ (k - 1) ≤ 3) : k ≤ 3 := by
  rcases h with h | h
  · omega
  · rcases Nat.lt_or_ge k 4 with h1 | h1
    · omega
    · have := Nat.pow_le_pow_right (n := 2) (by omega) (show 3 ≤ k - 1 by omega)
      omega
def L3 : List En := [(0, 0), (5, 300), (100, 900)]
theorem rise3 : Rise L3 := by
  intro i j hj hi
  simp [L3] at hj
  have : (i = 0 ∧ j = 1) ∨ (i = 0 ∧ j = 2) ∨ (i = 1 ∧ j = 2) := by omega
  rcases this with ⟨rfl, rfl⟩ | ⟨rfl, rfl⟩ | ⟨rfl, rfl⟩ <;> simp [L3]
theorem find_99 {w : World} {F : List Nat} {b : Nat} (h : Idx w F b L3) : Calls Try.prog 13 #[.pointer (some ⟨b, 0, none⟩), .int .i64 99] w (FoundIs 5 300 true 1 3 w) := by
  refine (find_at h rise3 99).mono ?_
  rintro e w' ⟨i, k, hs, rfl, ht⟩
  have hi : i = 2 := by
    have h1 := hs.hi 1 (by decide)
    have h2 := hs.lo 2 (by decide)
    simp [L3] at h1 h2
    omega
  subst hi
  have h0 : k ≠ 0 := by
    rintro rfl
    have := hs.some_ rfl
    simp [L3] at this
  have := look3 hs.was
  exact ⟨k, by omega, by omega, rfl, ht⟩
theorem find_m1 {w : World} {F : List Nat} {b : Nat} (h : Idx w F b L3) : Calls Try.prog 13 #[.pointer (some ⟨b, 0, none⟩), .int .i64 (-1)] w (FoundIs 0 0 false 0 3 w) := by
  refine (find_at h rise3 (-1)).mono ?_
  rintro e w' ⟨i, k, hs, rfl, ht⟩
  have hi : i = 0 := by
    have h1 := hs.lo 0 (by decide)
    simp [L3] at h1
    omega
  subst hi
  have := look3 hs.was
  exact ⟨k, by omega, by omega, rfl, ht⟩

set_option maxHeartbeats 1600000 in
set_option maxRecDepth 100000 in
theorem fixed_any (w : World) : Calls Try.prog 10 #[] w (Same (.bool true) w) := by
  go_enter Try.func10, Try.ntmps10
  go_wp2_with fail
  refine (new_any _).mono ?_
  rintro e w1 ⟨b, rfl, hb, ht1, hx1⟩
  have H1 := hide hx1
  clear hx1
  go_wp2_with fail
  refine (add_is H1.out 0 0 (by decide) (E := 0) (L := [(0, 0)]) rfl rfl).mono ?_
  rintro e w2 ⟨F2, rfl, ht2, hx2, hF2⟩
  have H2 := hide hx2
  clear hx2
  go_wp2_with fail
  refine (add_is H2.out 0 5 (by decide) (E := 30) (L := [(0, 0)]) rfl rfl).mono ?_
  rintro e w3 ⟨F3, rfl, ht3, hx3, hF3⟩
  have H3 := hide hx3
  clear hx3
  go_wp2_with fail
  refine (add_is H3.out 5 300 (by decide) (E := 0) (L := [(0, 0), (5, 300)]) rfl rfl).mono ?_
  rintro e w4 ⟨F4, rfl, ht4, hx4, hF4⟩
  have H4 := hide hx4
  clear hx4
  go_wp2_with fail
  refine (add_is H4.out 100 900 (by decide) (E := 0) (L := [(0, 0), (5, 300), (100, 900)]) rfl rfl).mono ?_
  rintro e w5 ⟨F5, rfl, ht5, hx5, hF5⟩
  have H5 := hide hx5
  clear hx5
  go_wp2_with fail
  refine (find_99 H5.out).mono ?_
  rintro e w6 ⟨k6, hk6, hm6, rfl, ht6⟩
  go_wp2_with fail
  refine (find_m1 (H5.out.turn0 (((Turn.refl _ _).trans0 ht6).alloc _))).mono ?_
  rintro e w7 ⟨k7, hk7, hm7, rfl, ht7⟩
  obtain ⟨hc7, hf7, hz7⟩ := box_kept ht7
  have HL := hide (fun wx (ht : Turn [] w7 wx) => len_at ((H5.out.turn0 (((Turn.refl _ _).trans0 ht6).trans0 (turn_box ht7))).turn0 ht))
  have s1 := ht1.size
  have s2 := ht2.size
  have s3 := ht3.size
  have s4 := ht4.size
  have g2 : ∀ k ∈ F2, w.heap.size ≤ k := fun k hk => by have := hF2 k hk; simp at this; omega
  have g3 : ∀ k ∈ F3, w.heap.size ≤ k := fun k hk => by rcases hF3 k hk with h | h; exact g2 k h; omega
  have g4 : ∀ k ∈ F4, w.heap.size ≤ k := fun k hk => by rcases hF4 k hk with h | h; exact g3 k h; omega
  have HT : Turn [] w w7 := ((((((ht1.trans ht2 (by simp; exact hb)).trans ht3 (fun k hk => .inr (g2 k hk))).trans ht4 (fun k hk => .inr (g3 k hk))).trans ht5 (fun k hk => .inr (g4 k hk))).trans0 ht6).trans0 (turn_box ht7))
  clear hF2 hF3 hF4 hF5 g2 g3 g4 s1 s2 s3 s4 H1 H2 H3 H4 H5 ht1 ht2 ht3 ht4 ht5 ht6
  go_wp2_with (go_at_call 12; refine (HL.out _ (by repeat first | exact Turn.refl _ _ | refine Turn.alloc ?_ _)).mono ?_; rintro e w' ⟨rfl, rfl⟩)
  all_goals go_ret
  exact ⟨by simp, HT.alloc _⟩
end Go.Proofs.Ytgjpaglkcpomnaa

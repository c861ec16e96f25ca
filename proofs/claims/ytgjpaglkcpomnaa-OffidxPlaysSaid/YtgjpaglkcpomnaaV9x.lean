/- OffidxNone, walked: calls of a nil index, of the zero one. -/
import Derived.Test.YtgjpaglkcpomnaaV8x
namespace Go.Proofs.Ytgjpaglkcpomnaa
set_option linter.unusedVariables false
set_option linter.unusedSimpArgs false
open Go.RowKit K

set_option maxHeartbeats 1600000 in
theorem add_nil (w : World) (k a : Int) : Calls Try.prog 31 #[.pointer none, .agg #[.int .i64 k, .int .i64 a]] w (Same (.int .i64 (addE [] (k, a))) w) := by
  have hE : addE [] (k, a) = if 0 ≤ k ∧ 0 ≤ a then 0 else 30 := by
    unfold addE
    by_cases h : 0 ≤ k ∧ 0 ≤ a
    · rw [if_pos h, if_pos (fits_nil h.1 h.2)]
    · rw [if_neg h, if_neg (fun hc => h (by have := (fits_iff (l := []) (p := 0) (q := 0) (ok := false) rfl).1 hc; exact ⟨this.1, this.2.1⟩))]
  rw [hE]
  clear hE
  by_cases h : 0 ≤ k ∧ 0 ≤ a
  · rw [if_pos h]
    obtain ⟨hk, ha⟩ := h
    go_enter Try.func31, Try.ntmps31
    go_wp2_with (go_at_call 22; refine (last_nil _).mono ?_; rintro e w1 ⟨rfl, ht⟩; obtain ⟨hc, hf, hz⟩ := box_kept ht)
    all_goals (go_ret; exact ⟨rfl, (turn_box ht).alloc _⟩)
  · rw [if_neg h]
    rcases (show (k < 0 ∧ a < 0) ∨ (k < 0 ∧ 0 ≤ a) ∨ (0 ≤ k ∧ a < 0) by omega) with ⟨hk, ha⟩ | ⟨hk, ha⟩ | ⟨hk, ha⟩
    all_goals
      clear h
      go_enter Try.func31, Try.ntmps31
      go_wp2_with (go_at_call 22; refine (last_nil _).mono ?_; rintro e w1 ⟨rfl, ht⟩; obtain ⟨hc, hf, hz⟩ := box_kept ht)
      all_goals (go_ret; exact ⟨rfl, (turn_box ht).alloc _⟩)

set_option maxHeartbeats 4000000 in
set_option maxRecDepth 100000 in
theorem nstep_add {w : World} {G : List Nat} {d : Nat} (h : RIdx w G d []) (k a n : Int) : Calls Try.prog 19 #[.pointer none, .pointer (some ⟨d, 0, none⟩), .agg #[.int .i64 1, .int .i64 k, .int .i64 a, .int .i64 n]] w fun e w' => e = .returned (.bool true) ∧ Turn G w w' := by
  have HY := hide (fun wx (ht : Turn [] w wx) => h.turn0 ht)
  have HYl := hide h.lt
  clear h
  go_enter Try.func19, Try.ntmps19
  go_wp2_with fail
  go_region_held3 (fun w' => w'.cell? ⟨w.heap.size, 1, none⟩ = some (.int .i64 k) ∧ w'.cell? ⟨w.heap.size, 2, none⟩ = some (.int .i64 a)) (go_keep)
    (first
    | (go_at_call 31; refine ((add_nil _ k a).mono fun e w1 h => (⟨h.1, h.2⟩ : e = Ending.returned (.int .i64 (addE [] (k, a))) ∧ Turn [] _ w1)).mono ?_; rintro e w7 ⟨rfl, ht1⟩; have HBX7 := hide (Blk.turn (by repeat first | exact Blk.new _ _ _ | exact (show Hid (Blk _ _ _ _) by assumption).out | refine Blk.drew ?_ | refine Blk.drewN ?_ _ | refine Blk.alloc ?_ _) ht1 (by simp)); have HA1 := hide ht1; clear ht1; have hk1 := HBX7.out.cell 1; have hk2 := HBX7.out.cell 2)
    | (go_at_call 39; refine ((radd (l := []) ?_ k a (by simp)).mono fun e w1 h => (h : RAddIs (addE [] (k, a)) (addL [] (k, a)) G d _ e w1)).mono ?_; (exact HY.out _ (Turn.pre (w := w) (by repeat first | exact Turn.refl _ _ | exact (show Hid (Turn [] _ _) by assumption).out | refine Turn.drew ?_ | refine Turn.drewN ?_ _ | refine Turn.alloc ?_ _) HA1.out)); rintro e w8 ⟨G1, rfl, ht1, _, _⟩; have HBX8 := hide (Blk.turn (by repeat first | exact Blk.new _ _ _ | exact (show Hid (Blk _ _ _ _) by assumption).out | refine Blk.drew ?_ | refine Blk.drewN ?_ _ | refine Blk.alloc ?_ _) ht1 (fun hm => by have := HYl.out _ hm; simp at this)); have HB1 := hide ht1; clear ht1; have hk1 := HBX8.out.cell 1; have hk2 := HBX8.out.cell 2)
    | (go_at_call 39; refine ((radd (l := []) ?_ k a (by simp)).mono fun e w1 h => (h : RAddIs (addE [] (k, a)) (addL [] (k, a)) G d _ e w1)).mono ?_; (exact HY.out _ (by repeat first | exact Turn.refl _ _ | exact (show Hid (Turn [] _ _) by assumption).out | refine Turn.drew ?_ | refine Turn.drewN ?_ _ | refine Turn.alloc ?_ _)); rintro e w8 ⟨G1, rfl, ht1, _, _⟩; have HBX8 := hide (Blk.turn (by repeat first | exact Blk.new _ _ _ | exact (show Hid (Blk _ _ _ _) by assumption).out | refine Blk.drew ?_ | refine Blk.drewN ?_ _ | refine Blk.alloc ?_ _) ht1 (fun hm => by have := HYl.out _ hm; simp at this)); have HB1 := hide ht1; clear ht1; have hk1 := HBX8.out.cell 1; have hk2 := HBX8.out.cell 2))
  all_goals
    go_wp2_with fail
    go_ret
    first
    | exact ⟨rfl, (Turn.pre (w := w) (Turn.pre (w := w) (by repeat first | exact Turn.refl _ _ | exact (show Hid (Turn [] _ _) by assumption).out | refine Turn.drew ?_ | refine Turn.drewN ?_ _ | refine Turn.alloc ?_ _) HA1.out) (Turn.pre (by repeat first | exact Turn.refl _ _ | exact (show Hid (Turn [] _ _) by assumption).out | refine Turn.drew ?_ | refine Turn.drewN ?_ _ | refine Turn.alloc ?_ _) HB1.out)).trans0 (by repeat first | exact Turn.refl _ _ | exact (show Hid (Turn [] _ _) by assumption).out | refine Turn.drew ?_ | refine Turn.drewN ?_ _ | refine Turn.alloc ?_ _)⟩
    | exact ⟨rfl, (Turn.pre (w := w) (by repeat first | exact Turn.refl _ _ | exact (show Hid (Turn [] _ _) by assumption).out | refine Turn.drew ?_ | refine Turn.drewN ?_ _ | refine Turn.alloc ?_ _) HB1.out).trans0 (Turn.pre (by repeat first | exact Turn.refl _ _ | exact (show Hid (Turn [] _ _) by assumption).out | refine Turn.drew ?_ | refine Turn.drewN ?_ _ | refine Turn.alloc ?_ _) HA1.out)⟩
set_option maxHeartbeats 4000000 in
set_option maxRecDepth 100000 in
theorem nstep_cut {w : World} {G : List Nat} {d : Nat} (h : RIdx w G d []) (k a n : Int) : Calls Try.prog 19 #[.pointer none, .pointer (some ⟨d, 0, none⟩), .agg #[.int .i64 3, .int .i64 k, .int .i64 a, .int .i64 n]] w fun e w' => e = .returned (.bool true) ∧ Turn G w w' := by
  have HY := hide (fun wx (ht : Turn [] w wx) => h.turn0 ht)
  have HYl := hide h.lt
  clear h
  go_enter Try.func19, Try.ntmps19
  go_wp2_with fail
  go_region_held3 (fun w' => w'.cell? ⟨w.heap.size, 3, none⟩ = some (.int .i64 n)) (go_keep)
    (first
    | (go_at_call 30; refine ((icut_nil _ n).mono fun e w1 h => (⟨h.1, by obtain ⟨h1, rfl⟩ := h; exact Turn.refl _ _⟩ : e = Ending.returned (.int .i64 (cutE [] n)) ∧ Turn [] _ w1)).mono ?_; rintro e w7 ⟨rfl, ht1⟩; have HBX7 := hide (Blk.turn (by repeat first | exact Blk.new _ _ _ | exact (show Hid (Blk _ _ _ _) by assumption).out | refine Blk.drew ?_ | refine Blk.drewN ?_ _ | refine Blk.alloc ?_ _) ht1 (by simp)); have HA1 := hide ht1; clear ht1; have hk3 := HBX7.out.cell 3)
    | (go_at_call 42; refine ((rcut (l := []) ?_ n).mono fun e w1 ⟨F1, h1, h2, h3, h4⟩ => (⟨F1, h1, h2, h3, fun k hk => .inl (h4 k hk)⟩ : RAddIs (cutE [] n) (cutL [] n) G d _ e w1)).mono ?_; (exact HY.out _ (Turn.pre (w := w) (by repeat first | exact Turn.refl _ _ | exact (show Hid (Turn [] _ _) by assumption).out | refine Turn.drew ?_ | refine Turn.drewN ?_ _ | refine Turn.alloc ?_ _) HA1.out)); rintro e w8 ⟨G1, rfl, ht1, _, _⟩; have HBX8 := hide (Blk.turn (by repeat first | exact Blk.new _ _ _ | exact (show Hid (Blk _ _ _ _) by assumption).out | refine Blk.drew ?_ | refine Blk.drewN ?_ _ | refine Blk.alloc ?_ _) ht1 (fun hm => by have := HYl.out _ hm; simp at this)); have HB1 := hide ht1; clear ht1; have hk3 := HBX8.out.cell 3)
    | (go_at_call 42; refine ((rcut (l := []) ?_ n).mono fun e w1 ⟨F1, h1, h2, h3, h4⟩ => (⟨F1, h1, h2, h3, fun k hk => .inl (h4 k hk)⟩ : RAddIs (cutE [] n) (cutL [] n) G d _ e w1)).mono ?_; (exact HY.out _ (by repeat first | exact Turn.refl _ _ | exact (show Hid (Turn [] _ _) by assumption).out | refine Turn.drew ?_ | refine Turn.drewN ?_ _ | refine Turn.alloc ?_ _)); rintro e w8 ⟨G1, rfl, ht1, _, _⟩; have HBX8 := hide (Blk.turn (by repeat first | exact Blk.new _ _ _ | exact (show Hid (Blk _ _ _ _) by assumption).out | refine Blk.drew ?_ | refine Blk.drewN ?_ _ | refine Blk.alloc ?_ _) ht1 (fun hm => by have := HYl.out _ hm; simp at this)); have HB1 := hide ht1; clear ht1; have hk3 := HBX8.out.cell 3))
  all_goals
    go_wp2_with fail
    go_ret
    first
    | exact ⟨rfl, (Turn.pre (w := w) (Turn.pre (w := w) (by repeat first | exact Turn.refl _ _ | exact (show Hid (Turn [] _ _) by assumption).out | refine Turn.drew ?_ | refine Turn.drewN ?_ _ | refine Turn.alloc ?_ _) HA1.out) (Turn.pre (by repeat first | exact Turn.refl _ _ | exact (show Hid (Turn [] _ _) by assumption).out | refine Turn.drew ?_ | refine Turn.drewN ?_ _ | refine Turn.alloc ?_ _) HB1.out)).trans0 (by repeat first | exact Turn.refl _ _ | exact (show Hid (Turn [] _ _) by assumption).out | refine Turn.drew ?_ | refine Turn.drewN ?_ _ | refine Turn.alloc ?_ _)⟩
    | exact ⟨rfl, (Turn.pre (w := w) (by repeat first | exact Turn.refl _ _ | exact (show Hid (Turn [] _ _) by assumption).out | refine Turn.drew ?_ | refine Turn.drewN ?_ _ | refine Turn.alloc ?_ _) HB1.out).trans0 (Turn.pre (by repeat first | exact Turn.refl _ _ | exact (show Hid (Turn [] _ _) by assumption).out | refine Turn.drew ?_ | refine Turn.drewN ?_ _ | refine Turn.alloc ?_ _) HA1.out)⟩
set_option maxHeartbeats 4000000 in
set_option maxRecDepth 100000 in
theorem nstep_find {w : World} {G : List Nat} {d : Nat} (h : RIdx w G d []) (k a n : Int) : Calls Try.prog 19 #[.pointer none, .pointer (some ⟨d, 0, none⟩), .agg #[.int .i64 2, .int .i64 k, .int .i64 a, .int .i64 n]] w fun e w' => e = .returned (.bool true) ∧ Turn G w w' := by
  have HY := hide (fun wx (ht : Turn [] w wx) => h.turn0 ht)
  have HYl := hide h.lt
  clear h
  have hfo : findOf [] k = ((0, 0), false) := findOf_none (fun m hm => by simp at hm)
  have HRd : Hid (∀ wx, Turn [] w wx → Calls Try.prog 40 #[.pointer (some ⟨d, 0, none⟩), .int .i64 k] wx fun e w' => e = .returned (.tuple #[.agg #[.int .i64 0, .int .i64 0], .bool false]) ∧ Turn [] wx w') := hide (fun wx ht => (rfind (HY.out wx ht) k).mono fun e w' h => by unfold RFinds at h; rw [hfo] at h; exact h)
  clear hfo
  go_enter Try.func19, Try.ntmps19
  go_wp2_with fail
  refine (find_nil _ _).mono ?_
  rintro e w1 ⟨rfl, ht1⟩
  have HBX := hide (Blk.turn (by repeat first | exact Blk.new _ _ _ | exact (show Hid (Blk _ _ _ _) by assumption).out | refine Blk.drew ?_ | refine Blk.drewN ?_ _ | refine Blk.alloc ?_ _) ht1 (by simp))
  have HT1 := hide (Turn.pre (w := w) (by repeat first | exact Turn.refl _ _ | exact (show Hid (Turn [] _ _) by assumption).out | refine Turn.drew ?_ | refine Turn.drewN ?_ _ | refine Turn.alloc ?_ _) ht1)
  have hb1 := HBX.out.cell 1
  have hzb := HBX.out.lt
  clear ht1
  go_wp2_with fail
  refine (HRd.out _ (by repeat first | exact Turn.refl _ _ | exact (show Hid (Turn [] _ _) by assumption).out | refine Turn.drew ?_ | refine Turn.drewN ?_ _ | refine Turn.alloc ?_ _)).mono ?_
  rintro e w2 ⟨rfl, ht2⟩
  have HBY := hide (Blk.turn (Blk.new w1 30 #[.int .i64 0, .int .i64 0]) ht2 (by simp))
  have hc10 : w2.cell? ⟨w1.heap.size, 0, none⟩ = some (.int .i64 0) := HBY.out.cell 0
  have hc11 : w2.cell? ⟨w1.heap.size, 1, none⟩ = some (.int .i64 0) := HBY.out.cell 1
  have hz1 := HBY.out.lt
  have HT2 := hide (Turn.pre (w := w) (by repeat first | exact Turn.refl _ _ | exact (show Hid (Turn [] _ _) by assumption).out | refine Turn.drew ?_ | refine Turn.drewN ?_ _ | refine Turn.alloc ?_ _) ht2)
  clear ht2 hb1 hzb
  go_wp2_with fail
  refine (rlen (HY.out _ (by repeat first | exact Turn.refl _ _ | exact (show Hid (Turn [] _ _) by assumption).out | refine Turn.drew ?_ | refine Turn.drewN ?_ _ | refine Turn.alloc ?_ _))).mono ?_
  rintro e w3 ⟨rfl, rfl⟩
  go_wp2_with fail
  refine (rlooks _ 0 (by omega)).mono ?_
  rintro e w3 ⟨K, rfl, hK, rfl⟩
  obtain rfl : K = 0 := by
    rcases hK with ⟨_, h⟩ | ⟨s, h, _⟩
    · exact h
    · omega
  clear hK
  go_wp2_with fail
  refine (rlen (HY.out _ (by repeat first | exact Turn.refl _ _ | exact (show Hid (Turn [] _ _) by assumption).out | refine Turn.drew ?_ | refine Turn.drewN ?_ _ | refine Turn.alloc ?_ _))).mono ?_
  rintro e w3 ⟨rfl, rfl⟩
  go_wp2_with fail
  go_ret
  exact ⟨rfl, Turn.mono (F := []) (by repeat first | exact Turn.refl _ _ | exact (show Hid (Turn [] _ _) by assumption).out | refine Turn.drew ?_ | refine Turn.drewN ?_ _ | refine Turn.alloc ?_ _) (by simp)⟩
set_option maxHeartbeats 4000000 in
set_option maxRecDepth 100000 in
theorem nstep_entry {w : World} {G : List Nat} {d : Nat} (h : RIdx w G d []) (k a n : Int) : Calls Try.prog 19 #[.pointer none, .pointer (some ⟨d, 0, none⟩), .agg #[.int .i64 4, .int .i64 k, .int .i64 a, .int .i64 n]] w fun e w' => e = .returned (.bool true) ∧ Turn G w w' := by
  have HY := hide (fun wx (ht : Turn [] w wx) => h.turn0 ht)
  have HYl := hide h.lt
  clear h
  have hfo : entryOf [] n = ((0, 0), false) := entryOf_out (by simp; omega)
  have HRd : Hid (∀ wx, Turn [] w wx → Calls Try.prog 43 #[.pointer (some ⟨d, 0, none⟩), .int .i64 n] wx (Ent ((0, 0), false) wx)) := hide (fun wx ht => hfo ▸ rentry (HY.out wx ht) n)
  clear hfo
  go_enter Try.func19, Try.ntmps19
  go_wp2_with fail
  refine (entry_nil _ _).mono ?_
  rintro e w1 ⟨rfl, ht1⟩
  have HBX := hide (Blk.turn (by repeat first | exact Blk.new _ _ _ | exact (show Hid (Blk _ _ _ _) by assumption).out | refine Blk.drew ?_ | refine Blk.drewN ?_ _ | refine Blk.alloc ?_ _) ht1 (by simp))
  have HT1 := hide (Turn.pre (w := w) (by repeat first | exact Turn.refl _ _ | exact (show Hid (Turn [] _ _) by assumption).out | refine Turn.drew ?_ | refine Turn.drewN ?_ _ | refine Turn.alloc ?_ _) ht1)
  have hb3 := HBX.out.cell 3
  have hzb := HBX.out.lt
  clear ht1
  go_wp2_with fail
  refine (HRd.out _ (by repeat first | exact Turn.refl _ _ | exact (show Hid (Turn [] _ _) by assumption).out | refine Turn.drew ?_ | refine Turn.drewN ?_ _ | refine Turn.alloc ?_ _)).mono ?_
  rintro e w2 ⟨rfl, ht2⟩
  have HBY := hide (Blk.turn (Blk.new w1 30 #[.int .i64 0, .int .i64 0]) ht2 (by simp))
  have hc10 : w2.cell? ⟨w1.heap.size, 0, none⟩ = some (.int .i64 0) := HBY.out.cell 0
  have hc11 : w2.cell? ⟨w1.heap.size, 1, none⟩ = some (.int .i64 0) := HBY.out.cell 1
  have hz1 := HBY.out.lt
  have HT2 := hide (Turn.pre (w := w) (by repeat first | exact Turn.refl _ _ | exact (show Hid (Turn [] _ _) by assumption).out | refine Turn.drew ?_ | refine Turn.drewN ?_ _ | refine Turn.alloc ?_ _) ht2)
  clear ht2 hb3 hzb
  go_wp2_with fail
  go_ret
  exact ⟨rfl, Turn.mono (F := []) (by repeat first | exact Turn.refl _ _ | exact (show Hid (Turn [] _ _) by assumption).out | refine Turn.drew ?_ | refine Turn.drewN ?_ _ | refine Turn.alloc ?_ _) (by simp)⟩
set_option maxHeartbeats 4000000 in
set_option maxRecDepth 100000 in
theorem nstep_other {w : World} {d : Nat} (kd k a n : Int) (h1 : kd ≠ 1) (h2 : kd ≠ 2) (h3 : kd ≠ 3) (h4 : kd ≠ 4) : Calls Try.prog 19 #[.pointer none, .pointer (some ⟨d, 0, none⟩), .agg #[.int .i64 kd, .int .i64 k, .int .i64 a, .int .i64 n]] w fun e w' => e = .returned (.bool true) ∧ Turn [] w w' := by
  have h1' : (kd == 1) = false := by simpa using h1
  have h2' : (kd == 2) = false := by simpa using h2
  have h3' : (kd == 3) = false := by simpa using h3
  have h4' : (kd == 4) = false := by simpa using h4
  clear h1 h2 h3 h4
  go_enter Try.func19, Try.ntmps19
  go_wp2_with fail
  go_ret
  exact ⟨rfl, (by repeat first | exact Turn.refl _ _ | exact (show Hid (Turn [] _ _) by assumption).out | refine Turn.drew ?_ | refine Turn.drewN ?_ _ | refine Turn.alloc ?_ _)⟩
theorem nstep_any {w : World} {G : List Nat} {d : Nat} (h : RIdx w G d []) (kd k a n : Int) : Calls Try.prog 19 #[.pointer none, .pointer (some ⟨d, 0, none⟩), .agg #[.int .i64 kd, .int .i64 k, .int .i64 a, .int .i64 n]] w fun e w' => e = .returned (.bool true) ∧ Turn G w w' := by
  by_cases h1 : kd = 1
  · subst h1; exact nstep_add h k a n
  · by_cases h2 : kd = 2
    · subst h2; exact nstep_find h k a n
    · by_cases h3 : kd = 3
      · subst h3; exact nstep_cut h k a n
      · by_cases h4 : kd = 4
        · subst h4; exact nstep_entry h k a n
        · exact (nstep_other kd k a n h1 h2 h3 h4).mono fun e w' h => ⟨h.1, h.2.mono (by simp)⟩

set_option maxHeartbeats 8000000 in
set_option maxRecDepth 100000 in
theorem none_any (w : World) (A : Option Addr) (c : Nat) (L : List Op4) (hr : Reads w 4 A L.length (opsV L)) (hsz : L.length * 32 ≤ 140737488351232) :
    Calls Try.prog 6 #[.slice A L.length c] w (Same (.bool true) w) := by
  have HR := hide hr
  clear hr
  go_enter Try.func6, Try.ntmps6
  go_wp2_with fail
  refine (fixed_any _).mono ?_
  rintro e w1 ⟨rfl, ht1⟩
  have HT1 := hide ht1
  clear ht1
  go_wp2_with fail
  have HX2 : Hid (Idx (w1.alloc (.cells #[.slice none 0 0] 46)) [w1.heap.size] w1.heap.size []) := hide ⟨none, 0, rfl, Blk.new _ _ _, World.ownsRow_nil _ _ _ _, by simp⟩
  have HT2 := hide (HT1.out.alloc (.cells #[.slice none 0 0] 46))
  have hb2 : w.heap.size ≤ w1.heap.size := HT1.out.size
  obtain ⟨b, hb⟩ : ∃ b, b = w1.heap.size := ⟨_, rfl⟩
  rw [← hb] at HX2 hb2 ⊢
  clear hb
  generalize w1.alloc (.cells #[.slice none 0 0] 46) = w2 at *
  refine (rnew _).mono ?_
  rintro e w3 ⟨d, rfl, hd, ht3, hy3⟩
  have HP3 : Hid (PR w ([b] ++ [d]) b d [] 0 w3) := hide ⟨Pair.new HX2.out hy3 ht3 hd, by simp, by
    have := HT2.out.size
    intro k hk
    simp at hk
    omega, HT2.out.trans0 ht3⟩
  clear ht3 hy3 hd hb2
  go_wp2_with fail
  clear HT1 HT2 HX2
  go_loopw [6] (fun i wr => ∃ (k : Nat) (S : List Nat) (l : List En), k ≤ L.length ∧ i = .int .i64 k ∧ PR w S b d l k wr) (fun i _ => L.length - (intOf i).toNat)
  case atStart => exact ⟨0, _, _, Nat.zero_le _, rfl, HP3.out⟩
  case round =>
    clear HP3
    obtain ⟨i, S, l, hi, rfl, hP⟩ := hrel
    by_cases hlt : i < L.length
    · obtain ⟨g, off, rfl, hg, hx0, hx1, hx2, hx3⟩ := reads_op (HR.out.turn0 hP.turn) hlt
      obtain ⟨⟨⟨kd, k⟩, a, n⟩, hq⟩ : ∃ q, q = L[i] := ⟨_, rfl⟩
      rw [← hq] at hx0 hx1 hx2 hx3
      clear hq
      have HP := hide hP
      have hlen := hP.len
      have hsz1 : (l.length + 1) * 16 ≤ 140737488355328 := by omega
      clear hP
      go_wp2_with fail
      refine (rnew _).mono ?_
      rintro e w4 ⟨v, rfl, hv, ht4, hy4⟩
      have HBX := hide (Blk.turn (by repeat first | exact Blk.new _ _ _ | exact (show Hid (Blk _ _ _ _) by assumption).out | refine Blk.drew ?_ | refine Blk.drewN ?_ _ | refine Blk.alloc ?_ _) ht4 (by simp))
      have HP4 := hide (HP.out.turn0 (Turn.pre (w := wr) (by repeat first | exact Turn.refl _ _ | exact (show Hid (Turn [] _ _) by assumption).out | refine Turn.drew ?_ | refine Turn.drewN ?_ _ | refine Turn.alloc ?_ _) ht4) (Nat.le_refl _))
      have HY4 := hide hy4
      have hzb := HBX.out.lt
      have hb0 := HBX.out.cell 0
      have hb1 := HBX.out.cell 1
      have hb2 := HBX.out.cell 2
      have hb3 := HBX.out.cell 3
      have hnv : wr.heap.size ≠ v := by simp at hv; omega
      have hvS : Hid (∀ k ∈ S, k ≠ v) := hide (fun k hk => by have := HP.out.pair.lt k hk; simp at hv; omega)
      have hvw : Hid (w.heap.size ≤ v) := hide (by have := HP.out.turn.size; simp at hv; omega)
      clear ht4 hy4 hx0 hx1 hx2 hx3 hv
      go_wp2_with fail
      refine (nstep_any HY4.out kd k a n).mono ?_
      rintro e w5 ⟨rfl, ht5⟩
      have HBX5 := hide (HBX.out.turn ht5 (by simpa using hnv))
      have HP5 := hide (HP4.out.other (Turn.refl _ _) ht5 (fun k hk hk' => by have := hvS.out k hk; simp at hk'; omega) (fun k hk => by simp at hk; subst hk; exact hvw.out))
      have hzb := HBX5.out.lt
      have hb0 := HBX5.out.cell 0
      have hb1 := HBX5.out.cell 1
      have hb2 := HBX5.out.cell 2
      have hb3 := HBX5.out.cell 3
      clear ht5 HBX HP4 HY4 HP
      go_wp2_with fail
      refine (len_nil _).mono ?_
      rintro e w6 ⟨rfl, rfl⟩
      go_wp2_with fail
      refine (entries_nil _).mono ?_
      rintro e w6 ⟨A6, c6, rfl, ht6, _, _⟩
      have HBX6 := hide (HBX5.out.turn ht6 (by simp))
      have HP6 := hide (HP5.out.turn0 ht6 (Nat.le_refl _))
      clear ht6 hzb hb0 hb1 hb2 hb3 HBX5 HP5
      go_wp2_with fail
      refine (ibytes_nil _).mono ?_
      rintro e w7 ⟨rfl, ht7⟩
      rw [show strOf [] = (⟨#[]⟩ : ByteArray) from rfl]
      have HBX7 := hide (HBX6.out.turn ht7 (by simp))
      have HP7 := hide (HP6.out.turn0 ht7 (Nat.le_refl _))
      have hzb := HBX7.out.lt
      have hb0 := HBX7.out.cell 0
      have hb1 := HBX7.out.cell 1
      have hb2 := HBX7.out.cell 2
      have hb3 := HBX7.out.cell 3
      clear ht7 HBX6 HP6
      go_wp2_with fail
      refine (step_any HP7.out.pair kd k a n hsz1).mono ?_
      rintro e w8 ⟨rfl, S8, hp8, ht8, hS8⟩
      have HP8 := hide (HP7.out.step (Turn.refl _ _) ht8 hp8 hS8 (stepL_length l kd k a n) (Turn.refl _ _))
      clear hp8 ht8 hS8
      obtain ⟨l8, hl8⟩ : ∃ l8, l8 = stepL l kd k a n := ⟨_, rfl⟩
      rw [← hl8] at HP8
      clear hl8 hzb hb0 hb1 hb2 hb3 HP7
      go_wp2_with fail
      refine (looks_any HP8.out.pair).mono ?_
      rintro e w9 ⟨rfl, ht9⟩
      have HP9 := hide (HP8.out.turn0 ht9 (Nat.le_refl _))
      clear ht9 HP8
      go_wp2_with fail
      exact ⟨⟨i + 1, S8, l8, by omega, by go_num, HP9.out⟩, by simp [intOf]; omega⟩
    · obtain rfl : i = L.length := by omega
      have HT := hide hP.turn
      clear hP
      go_wp2_with fail
      refine (last_nil _).mono ?_
      rintro e w4 ⟨rfl, ht4⟩
      have HT4 := hide (HT.out.trans0 ht4)
      clear ht4
      go_wp2_with fail
      refine (iclone_nil _).mono ?_
      rintro e w5 ⟨rfl, rfl⟩
      go_wp2_with fail
      go_ret
      exact ⟨rfl, (by repeat first | exact Turn.refl _ _ | exact (show Hid (Turn [] _ _) by assumption).out | refine Turn.drew ?_ | refine Turn.drewN ?_ _ | refine Turn.alloc ?_ _)⟩
end Go.Proofs.Ytgjpaglkcpomnaa

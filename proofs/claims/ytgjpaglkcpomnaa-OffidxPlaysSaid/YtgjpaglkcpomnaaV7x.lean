/- One call on both indexes, walked: they hold the same entries behind it. -/
import Derived.Test.YtgjpaglkcpomnaaV6x
namespace Go.Proofs.Ytgjpaglkcpomnaa
set_option linter.unusedVariables false
set_option linter.unusedSimpArgs false
open Go.RowKit K

theorem rise_cutL {l : List En} (h : Rise l) (n : Int) : Rise (cutL l n) := by
  unfold cutL
  split
  · intro i j hj hij
    have hj' : j < l.length := by simp at hj; omega
    have := h i j hj' hij
    simpa using this
  · exact h
def opV (kd k a n : Int) : Value := .agg #[.int .i64 kd, .int .i64 k, .int .i64 a, .int .i64 n]
set_option maxHeartbeats 4000000 in
set_option maxRecDepth 100000 in
theorem step_add {w : World} {S : List Nat} {b d : Nat} {l : List En} (h : Pair w S b d l) (k a n : Int) (hsz : (l.length + 1) * 16 ≤ 140737488355328) : Calls Try.prog 19 #[.pointer (some ⟨b, 0, none⟩), .pointer (some ⟨d, 0, none⟩), .agg #[.int .i64 1, .int .i64 k, .int .i64 a, .int .i64 n]] w (Stepped S b d (addL l (k, a)) w) := by
  have HPair := hide h
  have hsz0 := h.size
  obtain ⟨F, G, rfl, hx, hy, ha, hr⟩ := h
  have HX0 := hide hx
  have HY0 := hide hy
  have HX := hide (fun wx (ht : Turn [] w wx) => hx.turn0 ht)
  have HY := hide (fun wx (ht : Turn [] w wx) => hy.turn0 ht)
  have HAp := hide ha
  have HRi := hide hr
  have HXl := hide hx.lt
  have HYl := hide hy.lt
  clear hx hy ha hr
  go_enter Try.func19, Try.ntmps19
  go_wp2_with fail
  go_region_held3 (fun w' => w'.cell? ⟨w.heap.size, 1, none⟩ = some (.int .i64 k) ∧ w'.cell? ⟨w.heap.size, 2, none⟩ = some (.int .i64 a)) (go_keep)
    (first
    | (go_at_call 31; refine ((add_is (l := l) ?_ k a hsz rfl rfl).mono fun e w1 h => (h : AddIs (addE l (k, a)) (addL l (k, a)) F b _ e w1)).mono ?_; (exact HAC.out _ (by repeat first | exact Turn.refl _ _ | exact (show Hid (Turn [] _ _) by assumption).out | refine Turn.drew ?_ | refine Turn.drewN ?_ _ | refine Turn.alloc ?_ _)); rintro e w9 ⟨F1, rfl, ht1, hx1, hF1⟩; have HBX9 := hide (Blk.turn (by repeat first | exact Blk.new _ _ _ | exact (show Hid (Blk _ _ _ _) by assumption).out | refine Blk.drew ?_ | refine Blk.drewN ?_ _ | refine Blk.alloc ?_ _) ht1 (fun hm => by have := HXl.out _ hm; simp at this));  have HA1 := hide ht1; have HA2 := hide hx1; have HA3 := hide hF1; clear ht1 hx1 hF1; have hk1 := HBX9.out.cell 1; have hk2 := HBX9.out.cell 2)
    | (go_at_call 39; refine ((radd (l := l) ?_ k a hsz).mono fun e w1 h => (h : RAddIs (addE l (k, a)) (addL l (k, a)) G d _ e w1)).mono ?_; (exact HBC.out _ (by repeat first | exact Turn.refl _ _ | exact (show Hid (Turn [] _ _) by assumption).out | refine Turn.drew ?_ | refine Turn.drewN ?_ _ | refine Turn.alloc ?_ _)); rintro e w9 ⟨G1, rfl, ht1, hx1, hF1⟩; have HBX9 := hide (Blk.turn (by repeat first | exact Blk.new _ _ _ | exact (show Hid (Blk _ _ _ _) by assumption).out | refine Blk.drew ?_ | refine Blk.drewN ?_ _ | refine Blk.alloc ?_ _) ht1 (fun hm => by have := HYl.out _ hm; simp at this));  have HB1 := hide ht1; have HB2 := hide hx1; have HB3 := hide hF1; clear ht1 hx1 hF1; have hk1 := HBX9.out.cell 1; have hk2 := HBX9.out.cell 2)
    | (go_at_call 31; refine ((add_is (l := l) ?_ k a hsz rfl rfl).mono fun e w1 h => (h : AddIs (addE l (k, a)) (addL l (k, a)) F b _ e w1)).mono ?_; (exact HX.out _ (by repeat first | exact Turn.refl _ _ | exact (show Hid (Turn [] _ _) by assumption).out | refine Turn.drew ?_ | refine Turn.drewN ?_ _ | refine Turn.alloc ?_ _)); rintro e w7 ⟨F1, rfl, ht1, hx1, hF1⟩; have HBX7 := hide (Blk.turn (by repeat first | exact Blk.new _ _ _ | exact (show Hid (Blk _ _ _ _) by assumption).out | refine Blk.drew ?_ | refine Blk.drewN ?_ _ | refine Blk.alloc ?_ _) ht1 (fun hm => by have := HXl.out _ hm; simp at this)); have HBC := hide (fun wx (ht : Turn [] w7 wx) => ((HY.out _ (by repeat first | exact Turn.refl _ _ | exact (show Hid (Turn [] _ _) by assumption).out | refine Turn.drew ?_ | refine Turn.drewN ?_ _ | refine Turn.alloc ?_ _)).turn ht1 (fun k hk hk' => HAp.out k hk' hk)).turn0 ht); have HA1 := hide ht1; have HA2 := hide hx1; have HA3 := hide hF1; clear ht1 hx1 hF1; have hk1 := HBX7.out.cell 1; have hk2 := HBX7.out.cell 2)
    | (go_at_call 39; refine ((radd (l := l) ?_ k a hsz).mono fun e w1 h => (h : RAddIs (addE l (k, a)) (addL l (k, a)) G d _ e w1)).mono ?_; (exact HY.out _ (by repeat first | exact Turn.refl _ _ | exact (show Hid (Turn [] _ _) by assumption).out | refine Turn.drew ?_ | refine Turn.drewN ?_ _ | refine Turn.alloc ?_ _)); rintro e w8 ⟨G1, rfl, ht1, hx1, hF1⟩; have HBX8 := hide (Blk.turn (by repeat first | exact Blk.new _ _ _ | exact (show Hid (Blk _ _ _ _) by assumption).out | refine Blk.drew ?_ | refine Blk.drewN ?_ _ | refine Blk.alloc ?_ _) ht1 (fun hm => by have := HYl.out _ hm; simp at this)); have HAC := hide (fun wx (ht : Turn [] w8 wx) => ((HX.out _ (by repeat first | exact Turn.refl _ _ | exact (show Hid (Turn [] _ _) by assumption).out | refine Turn.drew ?_ | refine Turn.drewN ?_ _ | refine Turn.alloc ?_ _)).turn ht1 (HAp.out)).turn0 ht); have HB1 := hide ht1; have HB2 := hide hx1; have HB3 := hide hF1; clear ht1 hx1 hF1; have hk1 := HBX8.out.cell 1; have hk2 := HBX8.out.cell 2))
  all_goals
    go_wp2_with fail
    go_ret
    first
    | exact stepped_xy HX0.out HY0.out HAp.out (rise_addL HRi.out (k, a)) (by repeat first | exact Turn.refl _ _ | exact (show Hid (Turn [] _ _) by assumption).out | refine Turn.drew ?_ | refine Turn.drewN ?_ _ | refine Turn.alloc ?_ _) HA1.out HA2.out HA3.out (by repeat first | exact Turn.refl _ _ | exact (show Hid (Turn [] _ _) by assumption).out | refine Turn.drew ?_ | refine Turn.drewN ?_ _ | refine Turn.alloc ?_ _) HB1.out HB2.out HB3.out (by repeat first | exact Turn.refl _ _ | exact (show Hid (Turn [] _ _) by assumption).out | refine Turn.drew ?_ | refine Turn.drewN ?_ _ | refine Turn.alloc ?_ _)
    | exact stepped_yx HX0.out HY0.out HAp.out (rise_addL HRi.out (k, a)) (by repeat first | exact Turn.refl _ _ | exact (show Hid (Turn [] _ _) by assumption).out | refine Turn.drew ?_ | refine Turn.drewN ?_ _ | refine Turn.alloc ?_ _) HB1.out HB2.out HB3.out (by repeat first | exact Turn.refl _ _ | exact (show Hid (Turn [] _ _) by assumption).out | refine Turn.drew ?_ | refine Turn.drewN ?_ _ | refine Turn.alloc ?_ _) HA1.out HA2.out HA3.out (by repeat first | exact Turn.refl _ _ | exact (show Hid (Turn [] _ _) by assumption).out | refine Turn.drew ?_ | refine Turn.drewN ?_ _ | refine Turn.alloc ?_ _)
set_option maxHeartbeats 4000000 in
set_option maxRecDepth 100000 in
theorem step_cut {w : World} {S : List Nat} {b d : Nat} {l : List En} (h : Pair w S b d l) (k a n : Int) : Calls Try.prog 19 #[.pointer (some ⟨b, 0, none⟩), .pointer (some ⟨d, 0, none⟩), .agg #[.int .i64 3, .int .i64 k, .int .i64 a, .int .i64 n]] w (Stepped S b d (cutL l n) w) := by
  have HPair := hide h
  have hsz0 := h.size
  obtain ⟨F, G, rfl, hx, hy, ha, hr⟩ := h
  have HX0 := hide hx
  have HY0 := hide hy
  have HX := hide (fun wx (ht : Turn [] w wx) => hx.turn0 ht)
  have HY := hide (fun wx (ht : Turn [] w wx) => hy.turn0 ht)
  have HAp := hide ha
  have HRi := hide hr
  have HXl := hide hx.lt
  have HYl := hide hy.lt
  clear hx hy ha hr
  go_enter Try.func19, Try.ntmps19
  go_wp2_with fail
  go_region_held3 (fun w' => w'.cell? ⟨w.heap.size, 3, none⟩ = some (.int .i64 n)) (go_keep)
    (first
    | (go_at_call 30; refine ((icut_at (l := l) ?_ n).mono fun e w1 ⟨F1, h1, h2, h3, h4⟩ => (⟨F1, h1, h2, h3, fun k hk => .inl (h4 k hk)⟩ : AddIs (cutE l n) (cutL l n) F b _ e w1)).mono ?_; (exact HAC.out _ (by repeat first | exact Turn.refl _ _ | exact (show Hid (Turn [] _ _) by assumption).out | refine Turn.drew ?_ | refine Turn.drewN ?_ _ | refine Turn.alloc ?_ _)); rintro e w9 ⟨F1, rfl, ht1, hx1, hF1⟩; have HBX9 := hide (Blk.turn (by repeat first | exact Blk.new _ _ _ | exact (show Hid (Blk _ _ _ _) by assumption).out | refine Blk.drew ?_ | refine Blk.drewN ?_ _ | refine Blk.alloc ?_ _) ht1 (fun hm => by have := HXl.out _ hm; simp at this));  have HA1 := hide ht1; have HA2 := hide hx1; have HA3 := hide hF1; clear ht1 hx1 hF1; have hk3 := HBX9.out.cell 3)
    | (go_at_call 42; refine ((rcut (l := l) ?_ n).mono fun e w1 ⟨F1, h1, h2, h3, h4⟩ => (⟨F1, h1, h2, h3, fun k hk => .inl (h4 k hk)⟩ : RAddIs (cutE l n) (cutL l n) G d _ e w1)).mono ?_; (exact HBC.out _ (by repeat first | exact Turn.refl _ _ | exact (show Hid (Turn [] _ _) by assumption).out | refine Turn.drew ?_ | refine Turn.drewN ?_ _ | refine Turn.alloc ?_ _)); rintro e w9 ⟨G1, rfl, ht1, hx1, hF1⟩; have HBX9 := hide (Blk.turn (by repeat first | exact Blk.new _ _ _ | exact (show Hid (Blk _ _ _ _) by assumption).out | refine Blk.drew ?_ | refine Blk.drewN ?_ _ | refine Blk.alloc ?_ _) ht1 (fun hm => by have := HYl.out _ hm; simp at this));  have HB1 := hide ht1; have HB2 := hide hx1; have HB3 := hide hF1; clear ht1 hx1 hF1; have hk3 := HBX9.out.cell 3)
    | (go_at_call 30; refine ((icut_at (l := l) ?_ n).mono fun e w1 ⟨F1, h1, h2, h3, h4⟩ => (⟨F1, h1, h2, h3, fun k hk => .inl (h4 k hk)⟩ : AddIs (cutE l n) (cutL l n) F b _ e w1)).mono ?_; (exact HX.out _ (by repeat first | exact Turn.refl _ _ | exact (show Hid (Turn [] _ _) by assumption).out | refine Turn.drew ?_ | refine Turn.drewN ?_ _ | refine Turn.alloc ?_ _)); rintro e w7 ⟨F1, rfl, ht1, hx1, hF1⟩; have HBX7 := hide (Blk.turn (by repeat first | exact Blk.new _ _ _ | exact (show Hid (Blk _ _ _ _) by assumption).out | refine Blk.drew ?_ | refine Blk.drewN ?_ _ | refine Blk.alloc ?_ _) ht1 (fun hm => by have := HXl.out _ hm; simp at this)); have HBC := hide (fun wx (ht : Turn [] w7 wx) => ((HY.out _ (by repeat first | exact Turn.refl _ _ | exact (show Hid (Turn [] _ _) by assumption).out | refine Turn.drew ?_ | refine Turn.drewN ?_ _ | refine Turn.alloc ?_ _)).turn ht1 (fun k hk hk' => HAp.out k hk' hk)).turn0 ht); have HA1 := hide ht1; have HA2 := hide hx1; have HA3 := hide hF1; clear ht1 hx1 hF1; have hk3 := HBX7.out.cell 3)
    | (go_at_call 42; refine ((rcut (l := l) ?_ n).mono fun e w1 ⟨F1, h1, h2, h3, h4⟩ => (⟨F1, h1, h2, h3, fun k hk => .inl (h4 k hk)⟩ : RAddIs (cutE l n) (cutL l n) G d _ e w1)).mono ?_; (exact HY.out _ (by repeat first | exact Turn.refl _ _ | exact (show Hid (Turn [] _ _) by assumption).out | refine Turn.drew ?_ | refine Turn.drewN ?_ _ | refine Turn.alloc ?_ _)); rintro e w8 ⟨G1, rfl, ht1, hx1, hF1⟩; have HBX8 := hide (Blk.turn (by repeat first | exact Blk.new _ _ _ | exact (show Hid (Blk _ _ _ _) by assumption).out | refine Blk.drew ?_ | refine Blk.drewN ?_ _ | refine Blk.alloc ?_ _) ht1 (fun hm => by have := HYl.out _ hm; simp at this)); have HAC := hide (fun wx (ht : Turn [] w8 wx) => ((HX.out _ (by repeat first | exact Turn.refl _ _ | exact (show Hid (Turn [] _ _) by assumption).out | refine Turn.drew ?_ | refine Turn.drewN ?_ _ | refine Turn.alloc ?_ _)).turn ht1 (HAp.out)).turn0 ht); have HB1 := hide ht1; have HB2 := hide hx1; have HB3 := hide hF1; clear ht1 hx1 hF1; have hk3 := HBX8.out.cell 3))
  all_goals
    go_wp2_with fail
    go_ret
    first
    | exact stepped_xy HX0.out HY0.out HAp.out (rise_cutL HRi.out n) (by repeat first | exact Turn.refl _ _ | exact (show Hid (Turn [] _ _) by assumption).out | refine Turn.drew ?_ | refine Turn.drewN ?_ _ | refine Turn.alloc ?_ _) HA1.out HA2.out HA3.out (by repeat first | exact Turn.refl _ _ | exact (show Hid (Turn [] _ _) by assumption).out | refine Turn.drew ?_ | refine Turn.drewN ?_ _ | refine Turn.alloc ?_ _) HB1.out HB2.out HB3.out (by repeat first | exact Turn.refl _ _ | exact (show Hid (Turn [] _ _) by assumption).out | refine Turn.drew ?_ | refine Turn.drewN ?_ _ | refine Turn.alloc ?_ _)
    | exact stepped_yx HX0.out HY0.out HAp.out (rise_cutL HRi.out n) (by repeat first | exact Turn.refl _ _ | exact (show Hid (Turn [] _ _) by assumption).out | refine Turn.drew ?_ | refine Turn.drewN ?_ _ | refine Turn.alloc ?_ _) HB1.out HB2.out HB3.out (by repeat first | exact Turn.refl _ _ | exact (show Hid (Turn [] _ _) by assumption).out | refine Turn.drew ?_ | refine Turn.drewN ?_ _ | refine Turn.alloc ?_ _) HA1.out HA2.out HA3.out (by repeat first | exact Turn.refl _ _ | exact (show Hid (Turn [] _ _) by assumption).out | refine Turn.drew ?_ | refine Turn.drewN ?_ _ | refine Turn.alloc ?_ _)
set_option maxHeartbeats 4000000 in
set_option maxRecDepth 100000 in
theorem step_find {w : World} {S : List Nat} {b d : Nat} {l : List En} (h : Pair w S b d l) (k a n : Int) : Calls Try.prog 19 #[.pointer (some ⟨b, 0, none⟩), .pointer (some ⟨d, 0, none⟩), .agg #[.int .i64 2, .int .i64 k, .int .i64 a, .int .i64 n]] w (Stepped S b d l w) := by
  have HPair := hide h
  have hsz0 := h.size
  obtain ⟨F, G, rfl, hx, hy, ha, hr⟩ := h
  have HX0 := hide hx
  have HY0 := hide hy
  have HX := hide (fun wx (ht : Turn [] w wx) => hx.turn0 ht)
  have HY := hide (fun wx (ht : Turn [] w wx) => hy.turn0 ht)
  have HAp := hide ha
  have HRi := hide hr
  have HXl := hide hx.lt
  have HYl := hide hy.lt
  clear hx hy ha hr
  obtain ⟨⟨⟨p, q⟩, ok⟩, hfo⟩ : ∃ r, findOf l k = r := ⟨_, rfl⟩
  have HFd : Hid (∀ wx, Turn [] w wx → Calls Try.prog 13 #[.pointer (some ⟨b, 0, none⟩), .int .i64 k] wx fun e w' => ∃ kk : Nat, (kk = 0 ∨ 2 ^ (kk - 1) ≤ l.length) ∧ (l.length = 0 ↔ kk = 0) ∧ Turn [] wx w' ∧ e = .returned (.tuple #[.agg #[.int .i64 p, .int .i64 q], .bool ok, .int .i64 kk])) := hide (fun wx ht => (finds_at (HX.out wx ht) HRi.out k).mono fun e w' h => by unfold Finds at h; rw [hfo] at h; exact h)
  have HRd : Hid (∀ wx, Turn [] w wx → Calls Try.prog 40 #[.pointer (some ⟨d, 0, none⟩), .int .i64 k] wx fun e w' => e = .returned (.tuple #[.agg #[.int .i64 p, .int .i64 q], .bool ok]) ∧ Turn [] wx w') := hide (fun wx ht => (rfind (HY.out wx ht) k).mono fun e w' h => by unfold RFinds at h; rw [hfo] at h; exact h)
  clear hfo
  go_enter Try.func19, Try.ntmps19
  go_wp2_with fail
  refine (HFd.out _ (by repeat first | exact Turn.refl _ _ | exact (show Hid (Turn [] _ _) by assumption).out | refine Turn.drew ?_ | refine Turn.drewN ?_ _ | refine Turn.alloc ?_ _)).mono ?_
  rintro e w1 ⟨kk, hk1, hk2, ht1, rfl⟩
  have HBX := hide (Blk.turn (by repeat first | exact Blk.new _ _ _ | exact (show Hid (Blk _ _ _ _) by assumption).out | refine Blk.drew ?_ | refine Blk.drewN ?_ _ | refine Blk.alloc ?_ _) ht1 (by simp))
  have HT1 := hide (Turn.pre (w := w) (by repeat first | exact Turn.refl _ _ | exact (show Hid (Turn [] _ _) by assumption).out | refine Turn.drew ?_ | refine Turn.drewN ?_ _ | refine Turn.alloc ?_ _) ht1)
  have hb1 := HBX.out.cell 1
  have hzb := HBX.out.lt
  clear ht1
  go_wp2_with fail
  refine (HRd.out _ (by repeat first | exact Turn.refl _ _ | exact (show Hid (Turn [] _ _) by assumption).out | refine Turn.drew ?_ | refine Turn.drewN ?_ _ | refine Turn.alloc ?_ _)).mono ?_
  rintro e w2 ⟨rfl, ht2⟩
  have HBY := hide (Blk.turn (Blk.new w1 30 #[.int .i64 p, .int .i64 q]) ht2 (by simp))
  have hc10 : w2.cell? ⟨w1.heap.size, 0, none⟩ = some (.int .i64 p) := HBY.out.cell 0
  have hc11 : w2.cell? ⟨w1.heap.size, 1, none⟩ = some (.int .i64 q) := HBY.out.cell 1
  have hz1 := HBY.out.lt
  have HT2 := hide (Turn.pre (w := w) (by repeat first | exact Turn.refl _ _ | exact (show Hid (Turn [] _ _) by assumption).out | refine Turn.drew ?_ | refine Turn.drewN ?_ _ | refine Turn.alloc ?_ _) ht2)
  clear ht2 hb1 hzb
  have HK := hide (fun (K : Int) (h : Lks l.length K) => looks_enough hk1 hk2 h)
  have HK2 := hide hk2
  have hz : ((decide ((1 : Int) ≤ (kk : Int))) == decide (0 < l.length)) = true := by
    rw [beq_iff_eq, decide_eq_decide]
    constructor <;> intro h <;> (rcases Nat.eq_zero_or_pos l.length with h0 | h0) <;> (rcases Nat.eq_zero_or_pos kk with h3 | h3) <;> omega
  have HZ := hide hz
  clear hk1 hk2 hz
  go_wp2_with fail
  refine (rlen (HY.out _ (by repeat first | exact Turn.refl _ _ | exact (show Hid (Turn [] _ _) by assumption).out | refine Turn.drew ?_ | refine Turn.drewN ?_ _ | refine Turn.alloc ?_ _))).mono ?_
  rintro e w3 ⟨rfl, rfl⟩
  go_wp2_with fail
  refine (rlooks _ l.length (by omega)).mono ?_
  rintro e w3 ⟨K, rfl, hK, rfl⟩
  have hle := HK.out K hK
  clear hK
  go_wp2_with fail
  refine (rlen (HY.out _ (by repeat first | exact Turn.refl _ _ | exact (show Hid (Turn [] _ _) by assumption).out | refine Turn.drew ?_ | refine Turn.drewN ?_ _ | refine Turn.alloc ?_ _))).mono ?_
  rintro e w3 ⟨rfl, rfl⟩
  go_wp2_with fail
  go_ret
  rw [HZ.out]
  exact Stepped.same HPair.out (by repeat first | exact Turn.refl _ _ | exact (show Hid (Turn [] _ _) by assumption).out | refine Turn.drew ?_ | refine Turn.drewN ?_ _ | refine Turn.alloc ?_ _)
set_option maxHeartbeats 4000000 in
set_option maxRecDepth 100000 in
theorem step_entry {w : World} {S : List Nat} {b d : Nat} {l : List En} (h : Pair w S b d l) (k a n : Int) : Calls Try.prog 19 #[.pointer (some ⟨b, 0, none⟩), .pointer (some ⟨d, 0, none⟩), .agg #[.int .i64 4, .int .i64 k, .int .i64 a, .int .i64 n]] w (Stepped S b d l w) := by
  have HPair := hide h
  have hsz0 := h.size
  obtain ⟨F, G, rfl, hx, hy, ha, hr⟩ := h
  have HX0 := hide hx
  have HY0 := hide hy
  have HX := hide (fun wx (ht : Turn [] w wx) => hx.turn0 ht)
  have HY := hide (fun wx (ht : Turn [] w wx) => hy.turn0 ht)
  have HAp := hide ha
  have HRi := hide hr
  have HXl := hide hx.lt
  have HYl := hide hy.lt
  clear hx hy ha hr
  obtain ⟨⟨⟨p, q⟩, ok⟩, hfo⟩ : ∃ r, entryOf l n = r := ⟨_, rfl⟩
  have HFd : Hid (∀ wx, Turn [] w wx → Calls Try.prog 34 #[.pointer (some ⟨b, 0, none⟩), .int .i64 n] wx (Ent ((p, q), ok) wx)) := hide (fun wx ht => hfo ▸ entry_at (HX.out wx ht) n)
  have HRd : Hid (∀ wx, Turn [] w wx → Calls Try.prog 43 #[.pointer (some ⟨d, 0, none⟩), .int .i64 n] wx (Ent ((p, q), ok) wx)) := hide (fun wx ht => hfo ▸ rentry (HY.out wx ht) n)
  clear hfo
  go_enter Try.func19, Try.ntmps19
  go_wp2_with fail
  refine (HFd.out _ (by repeat first | exact Turn.refl _ _ | exact (show Hid (Turn [] _ _) by assumption).out | refine Turn.drew ?_ | refine Turn.drewN ?_ _ | refine Turn.alloc ?_ _)).mono ?_
  rintro e w1 ⟨rfl, ht1⟩
  have HBX := hide (Blk.turn (by repeat first | exact Blk.new _ _ _ | exact (show Hid (Blk _ _ _ _) by assumption).out | refine Blk.drew ?_ | refine Blk.drewN ?_ _ | refine Blk.alloc ?_ _) ht1 (by simp))
  have HT1 := hide (Turn.pre (w := w) (by repeat first | exact Turn.refl _ _ | exact (show Hid (Turn [] _ _) by assumption).out | refine Turn.drew ?_ | refine Turn.drewN ?_ _ | refine Turn.alloc ?_ _) ht1)
  have hb3 := HBX.out.cell 3
  have hzb := HBX.out.lt
  clear ht1
  go_wp2_with fail
  refine (HRd.out _ (by repeat first | exact Turn.refl _ _ | exact (show Hid (Turn [] _ _) by assumption).out | refine Turn.drew ?_ | refine Turn.drewN ?_ _ | refine Turn.alloc ?_ _)).mono ?_
  rintro e w2 ⟨rfl, ht2⟩
  have HBY := hide (Blk.turn (Blk.new w1 30 #[.int .i64 p, .int .i64 q]) ht2 (by simp))
  have hc10 : w2.cell? ⟨w1.heap.size, 0, none⟩ = some (.int .i64 p) := HBY.out.cell 0
  have hc11 : w2.cell? ⟨w1.heap.size, 1, none⟩ = some (.int .i64 q) := HBY.out.cell 1
  have hz1 := HBY.out.lt
  have HT2 := hide (Turn.pre (w := w) (by repeat first | exact Turn.refl _ _ | exact (show Hid (Turn [] _ _) by assumption).out | refine Turn.drew ?_ | refine Turn.drewN ?_ _ | refine Turn.alloc ?_ _) ht2)
  clear ht2 hb3 hzb
  go_wp2_with fail
  go_ret
  exact Stepped.same HPair.out (by repeat first | exact Turn.refl _ _ | exact (show Hid (Turn [] _ _) by assumption).out | refine Turn.drew ?_ | refine Turn.drewN ?_ _ | refine Turn.alloc ?_ _)
set_option maxHeartbeats 4000000 in
set_option maxRecDepth 100000 in
theorem step_other {w : World} {S : List Nat} {b d : Nat} {l : List En} (h : Pair w S b d l) (kd k a n : Int) (h1 : kd ≠ 1) (h2 : kd ≠ 2) (h3 : kd ≠ 3) (h4 : kd ≠ 4) : Calls Try.prog 19 #[.pointer (some ⟨b, 0, none⟩), .pointer (some ⟨d, 0, none⟩), .agg #[.int .i64 kd, .int .i64 k, .int .i64 a, .int .i64 n]] w (Stepped S b d l w) := by
  have HPair := hide h
  have h1' : (kd == 1) = false := by simpa using h1
  have h2' : (kd == 2) = false := by simpa using h2
  have h3' : (kd == 3) = false := by simpa using h3
  have h4' : (kd == 4) = false := by simpa using h4
  clear h h1 h2 h3 h4
  go_enter Try.func19, Try.ntmps19
  go_wp2_with fail
  go_ret
  exact Stepped.same HPair.out (by repeat first | exact Turn.refl _ _ | exact (show Hid (Turn [] _ _) by assumption).out | refine Turn.drew ?_ | refine Turn.drewN ?_ _ | refine Turn.alloc ?_ _)
/-- what a call makes of the entries. -/
def stepL (l : List En) (kd k a n : Int) : List En := if kd = 1 then addL l (k, a) else if kd = 3 then cutL l n else l
theorem stepL_length (l : List En) (kd k a n : Int) : (stepL l kd k a n).length ≤ l.length + 1 := by
  unfold stepL
  split
  · unfold addL; split <;> simp
  · split
    · have := cutL_length l n; omega
    · omega
theorem step_any {w : World} {S : List Nat} {b d : Nat} {l : List En} (h : Pair w S b d l) (kd k a n : Int) (hsz : (l.length + 1) * 16 ≤ 140737488355328) : Calls Try.prog 19 #[.pointer (some ⟨b, 0, none⟩), .pointer (some ⟨d, 0, none⟩), .agg #[.int .i64 kd, .int .i64 k, .int .i64 a, .int .i64 n]] w (Stepped S b d (stepL l kd k a n) w) := by
  by_cases h1 : kd = 1
  · subst h1; exact step_add h k a n hsz
  · by_cases h2 : kd = 2
    · subst h2; exact step_find h k a n
    · by_cases h3 : kd = 3
      · subst h3; exact step_cut h k a n
      · by_cases h4 : kd = 4
        · subst h4; exact step_entry h k a n
        · have e : stepL l kd k a n = l := by unfold stepL; rw [if_neg h1, if_neg h3]
          rw [e]
          exact step_other h kd k a n h1 h2 h3 h4
end Go.Proofs.Ytgjpaglkcpomnaa

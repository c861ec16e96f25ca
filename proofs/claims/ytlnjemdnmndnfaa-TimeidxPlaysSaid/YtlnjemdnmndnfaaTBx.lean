/- TimeidxReads, walked. -/
import Derived.Test.YtlnjemdnmndnfaaTAx
namespace Go.Proofs.Ytlnjemdnmndnfaa
set_option linter.unusedVariables false
set_option linter.unusedSimpArgs false
open Go.RowKit K

set_option maxHeartbeats 8000000 in
set_option maxRecDepth 100000 in
theorem reads_any (w : World) (s : ByteArray) (x y : Int) (hs : s.size ≤ 140737488351232) : Calls Try.prog 6 #[.string s, .agg #[.int .i64 x, .int .i64 y]] w (Same (.bool true) w) := by
  obtain ⟨r, HR1, HR2⟩ : ∃ r : Option (List En) × Int, Hid (∀ wx, Calls Try.prog 24 #[.string s] wx (LoadIs 45 r wx)) ∧ Hid (∀ wx, Calls Try.prog 25 #[.string s] wx (LoadIs 34 r wx)) := by
    by_cases h : s.size % 16 = 0
    · exact ⟨_, hide (fun wx => read_yes wx s (s.size / 16) (by omega) hs), hide (fun wx => rread_yes wx s (s.size / 16) (by omega) hs)⟩
    · exact ⟨(none, 29), hide (fun wx => (read_no wx s hs h).mono fun e w' h => ⟨fun l hl => (by simp at hl), fun _ => h⟩), hide (fun wx => (rread_no wx s hs h).mono fun e w' h => ⟨fun l hl => (by simp at hl), fun _ => h⟩)⟩
  obtain ⟨ro, E⟩ := r
  go_enter Try.func6, Try.ntmps6
  go_wp2_with fail
  refine (finds_any _).mono ?_
  rintro e w1 ⟨rfl, ht1⟩
  obtain ⟨g, hg⟩ : ∃ g, g = w.heap.size := ⟨_, rfl⟩
  have HB1 := hide (Blk.turn (Blk.new w 29 #[.int .i64 x, .int .i64 y]) ht1 (by simp))
  have HT1 := hide (Turn.pre (w := w) (by repeat first | exact Turn.refl _ _ | exact (show Hid (Turn [] _ _) by assumption).out | refine Turn.drew ?_ | refine Turn.drewN ?_ _ | refine Turn.alloc ?_ _) ht1)
  have HGn : Hid (w.heap.size ≤ g) := hide (by omega)
  rw [← hg] at HB1 ⊢
  clear ht1 hg
  go_wp2_with fail
  refine (HR1.out _).mono ?_
  intro e w2 h2
  cases ro with
  | none =>
    obtain ⟨rfl, ht2⟩ := h2.2 rfl
    have HB2 := hide (HB1.out.turn ht2 (by simp))
    have HT2 := hide (HT1.out.trans0 ht2)
    clear h2 ht2
    go_wp2_with fail
    refine (HR2.out _).mono ?_
    intro e w3 h3
    obtain ⟨rfl, ht3⟩ := h3.2 rfl
    have HB3 := hide (HB2.out.turn ht3 (by simp))
    have HT3 := hide (HT2.out.trans0 ht3)
    have hc0 := HB3.out.cell 0
    have hc1 := HB3.out.cell 1
    have hz := HB3.out.lt
    clear h3 ht3 HB2 HT2 HB1 HT1
    go_wp2_with fail
    go_region_held3 (fun w' => w'.cell? ⟨g, 0, none⟩ = some (.int .i64 x) ∧ w'.cell? ⟨g, 1, none⟩ = some (.int .i64 y)) (go_keep)
      (first
      | (go_at_call 26; refine (form_any _ _ _).mono ?_; rintro e w4 ⟨rfl, ht4⟩; have HB4 := hide (Blk.turn (by repeat first | exact Blk.new _ _ _ | exact (show Hid (Blk _ _ _ _) by assumption).out | refine Blk.drew ?_ | refine Blk.drewN ?_ _ | refine Blk.alloc ?_ _) ht4 (by simp)); have HT4 := hide (Turn.pre (w := w3) (by repeat first | exact Turn.refl _ _ | exact (show Hid (Turn [] _ _) by assumption).out | refine Turn.drew ?_ | refine Turn.drewN ?_ _ | refine Turn.alloc ?_ _) ht4); clear ht4; have hk0 := HB4.out.cell 0; have hk1 := HB4.out.cell 1)
      | (go_at_call 27; refine (rform_any _ _ _).mono ?_; rintro e w4 ⟨rfl, ht4⟩; have HB4 := hide (Blk.turn (by repeat first | exact Blk.new _ _ _ | exact (show Hid (Blk _ _ _ _) by assumption).out | refine Blk.drew ?_ | refine Blk.drewN ?_ _ | refine Blk.alloc ?_ _) ht4 (by simp)); have HT4 := hide (Turn.pre (w := w3) (by repeat first | exact Turn.refl _ _ | exact (show Hid (Turn [] _ _) by assumption).out | refine Turn.drew ?_ | refine Turn.drewN ?_ _ | refine Turn.alloc ?_ _) ht4); clear ht4; have hk0 := HB4.out.cell 0; have hk1 := HB4.out.cell 1))
    go_wp2_with fail
    go_ret
    exact ⟨rfl, HT3.out.trans0 (by repeat first | exact Turn.refl _ _ | exact (show Hid (Turn [] _ _) by assumption).out | refine Turn.drew ?_ | refine Turn.drewN ?_ _ | refine Turn.alloc ?_ _)⟩
  | some l =>
    obtain ⟨F, b, rfl, ht2, hx2, _, hm⟩ := h2.1 l rfl
    have HB2 := hide (HB1.out.turn ht2 (by simp))
    have HT2 := hide (HT1.out.trans0 ht2)
    have HX2 := hide hx2
    have HM := hide hm
    clear h2 ht2 hx2 hm
    go_wp2_with fail
    refine (HR2.out _).mono ?_
    intro e w3 h3
    obtain ⟨G, d, rfl, ht3, hx3, hG, _⟩ := h3.1 l rfl
    have HB3 := hide (HB2.out.turn ht3 (by simp))
    have HT3 := hide (HT2.out.trans0 ht3)
    have hpr : Pair w3 (F ++ G) b d l := ⟨F, G, rfl, HX2.out.turn0 ht3, hx3, fun k hk hk' => by have := HX2.out.lt k hk; have := hG k hk'; omega, HM.out⟩
    have HP := hide (fun wx (ht : Turn [] w3 wx) => hpr.turn0 ht)
    have HX := hide (fun wx (ht : Turn [] w3 wx) => (HX2.out.turn0 ht3).turn0 ht)
    have HY := hide (fun wx (ht : Turn [] w3 wx) => hx3.turn0 ht)
    have hc0 := HB3.out.cell 0
    have hc1 := HB3.out.cell 1
    have hz := HB3.out.lt
    clear h3 ht3 HB2 HT2 HB1 HT1 hpr hx3
    go_wp2_with fail
    go_region_held3 (fun w' => w'.cell? ⟨g, 0, none⟩ = some (.int .i64 x) ∧ w'.cell? ⟨g, 1, none⟩ = some (.int .i64 y)) (go_keep)
      (first
      | (go_at_call 26; refine (form_any _ _ _).mono ?_; rintro e w4 ⟨rfl, ht4⟩; have HB4 := hide (Blk.turn (by repeat first | exact Blk.new _ _ _ | exact (show Hid (Blk _ _ _ _) by assumption).out | refine Blk.drew ?_ | refine Blk.drewN ?_ _ | refine Blk.alloc ?_ _) ht4 (by simp)); have HT4 := hide (Turn.pre (w := w3) (by repeat first | exact Turn.refl _ _ | exact (show Hid (Turn [] _ _) by assumption).out | refine Turn.drew ?_ | refine Turn.drewN ?_ _ | refine Turn.alloc ?_ _) ht4); clear ht4; have hk0 := HB4.out.cell 0; have hk1 := HB4.out.cell 1)
      | (go_at_call 27; refine (rform_any _ _ _).mono ?_; rintro e w4 ⟨rfl, ht4⟩; have HB4 := hide (Blk.turn (by repeat first | exact Blk.new _ _ _ | exact (show Hid (Blk _ _ _ _) by assumption).out | refine Blk.drew ?_ | refine Blk.drewN ?_ _ | refine Blk.alloc ?_ _) ht4 (by simp)); have HT4 := hide (Turn.pre (w := w3) (by repeat first | exact Turn.refl _ _ | exact (show Hid (Turn [] _ _) by assumption).out | refine Turn.drew ?_ | refine Turn.drewN ?_ _ | refine Turn.alloc ?_ _) ht4); clear ht4; have hk0 := HB4.out.cell 0; have hk1 := HB4.out.cell 1))
    go_wp2_with fail
    refine (agree_any (HX.out _ (by repeat first | exact Turn.refl _ _ | exact (show Hid (Turn [] _ _) by assumption).out | refine Turn.drew ?_ | refine Turn.drewN ?_ _ | refine Turn.alloc ?_ _)) (HY.out _ (by repeat first | exact Turn.refl _ _ | exact (show Hid (Turn [] _ _) by assumption).out | refine Turn.drew ?_ | refine Turn.drewN ?_ _ | refine Turn.alloc ?_ _))).mono ?_
    rintro e w5 ⟨rfl, ht5⟩
    have HB5 := hide (Blk.turn (by repeat first | exact Blk.new _ _ _ | exact (show Hid (Blk _ _ _ _) by assumption).out | refine Blk.drew ?_ | refine Blk.drewN ?_ _ | refine Blk.alloc ?_ _) ht5 (by simp))
    have HT5 := hide (Turn.pre (w := w3) (by repeat first | exact Turn.refl _ _ | exact (show Hid (Turn [] _ _) by assumption).out | refine Turn.drew ?_ | refine Turn.drewN ?_ _ | refine Turn.alloc ?_ _) ht5)
    clear ht5 hk0 hk1
    have hk0 := HB5.out.cell 0
    have hk1 := HB5.out.cell 1
    have hz5 := HB5.out.lt
    go_wp2_with fail
    refine (found_any (HP.out _ (by repeat first | exact Turn.refl _ _ | exact (show Hid (Turn [] _ _) by assumption).out | refine Turn.drew ?_ | refine Turn.drewN ?_ _ | refine Turn.alloc ?_ _)) _).mono ?_
    rintro e w6 ⟨rfl, ht6⟩
    have HT6 := hide (Turn.pre (w := w3) (by repeat first | exact Turn.refl _ _ | exact (show Hid (Turn [] _ _) by assumption).out | refine Turn.drew ?_ | refine Turn.drewN ?_ _ | refine Turn.alloc ?_ _) ht6)
    clear ht6
    go_wp2_with fail
    go_ret
    exact ⟨rfl, HT3.out.trans0 (by repeat first | exact Turn.refl _ _ | exact (show Hid (Turn [] _ _) by assumption).out | refine Turn.drew ?_ | refine Turn.drewN ?_ _ | refine Turn.alloc ?_ _)⟩
end Go.Proofs.Ytlnjemdnmndnfaa

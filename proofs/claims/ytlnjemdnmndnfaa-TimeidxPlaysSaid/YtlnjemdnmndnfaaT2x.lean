/- What Append and Cut come to, walked: the program's and the document's. -/
import Derived.Test.YtlnjemdnmndnfaaT1x
namespace Go.Proofs.Ytlnjemdnmndnfaa
set_option linter.unusedVariables false
set_option linter.unusedSimpArgs false
open Go.RowKit K

/-- a call that leaves the entries L and answers E. -/
def App (t : Nat) (E : Int) (L : List En) (F : List Nat) (b : Nat) (w : World) (e : Ending) (w' : World) : Prop :=
  ∃ F', e = .returned (.int .i64 E) ∧ Turn F w w' ∧ Ix t w' F' b L ∧ ∀ k ∈ F', k ∈ F ∨ w.heap.size ≤ k
theorem App.same {t : Nat} {E : Int} {F : List Nat} {b : Nat} {w w' : World} {l : List En} (h : Ix t w F b l) (ht : Turn [] w w') : App t E l F b w (.returned (.int .i64 E)) w' :=
  ⟨F, rfl, ht.mono (by simp), h.turn0 ht, fun k hk => .inl hk⟩
theorem ix_app {t : Nat} {w W w2 : World} {F : List Nat} {b c : Nat} {l : List En} {e : En} {A : Option Addr} {v : Value} (ht29 : 29 ≠ t) (hF : F = b :: blockOf A) (tw : Turn [] w W) (hB : Blk w b t #[.slice A l.length c])
    (hsz : (l.length + 1) * 16 ≤ 140737488355328) (hO : w.ownsRow 0 29 2 (.slice A l.length c) l.length (ents l)) (hg : W.grownBy w2 (Value.slice A l.length c).ownBlock) (ho : w2.ownsRow 0 29 2 v (l.length + 1) (ents l ++ ents [e]))
    (hb : v.ownBlock = (Value.slice A l.length c).ownBlock ∨ v.ownBlock = some W.heap.size) :
    (w2.cell? ⟨b, 0, none⟩ = some (.slice A l.length c) ∧ w2.frozen? ⟨b, 0, none⟩ = false ∧ b < w2.heap.size) ∧ Turn F w (w2.setCell ⟨b, 0, none⟩ v) ∧ ∃ F', Ix t (w2.setCell ⟨b, 0, none⟩ v) F' b (l ++ [e]) ∧ ∀ k ∈ F', k ∈ F ∨ w.heap.size ≤ k := by
  obtain ⟨A1, c1, rfl⟩ := own_form ho
  have hne : b ∉ blockOf A := fun h => own_blk_ne hO hB ht29 (mem_blockOf.2 h)
  have kb : Blk w2 b t #[.slice A l.length c] := (hB.turn tw (by simp)).grown hg (fun h => hne (mem_blockOf.1 h.symm))
  have hne1 : b ∉ blockOf A1 := fun h => own_blk_ne ho kb ht29 (mem_blockOf.2 h)
  have t2 : Turn F w w2 := (tw.mono (G := F) (by simp)).grown hg (fun g hg' => .inl (by rw [hF]; simp [mem_blockOf.1 hg']))
  refine ⟨⟨kb.cell 0, kb.frozen 0, kb.lt⟩, t2.setCell (.inl (by simp [hF])) _, b :: blockOf A1, ⟨A1, c1, rfl, ?_, ?_, by simpa using hsz⟩, ?_⟩
  · simpa using kb.set_ 0 (.slice A1 (l.length + 1) c1)
  · have := own_turn ho (turn_set w2 b 0 (.slice A1 (l.length + 1) c1)) (fun g hg' => by have := mem_blockOf.1 hg'; simp; rintro rfl; exact hne1 this)
    simpa [ents_append] using this
  · intro k hk
    simp only [List.mem_cons] at hk
    rcases hk with rfl | hk
    · exact .inl (by simp [hF])
    · have hk' := (mem_blockOf (n := l.length + 1) (c := c1)).2 hk
      rcases hb with hb | hb
      · rw [hb] at hk'
        exact .inl (by rw [hF]; simp [mem_blockOf.1 hk'])
      · rw [hb] at hk'
        injection hk' with hk'
        exact .inr (by have := tw.size; omega)

set_option maxHeartbeats 3200000 in
set_option maxRecDepth 1000000 in
theorem app_at {w : World} {F : List Nat} {b : Nat} {l : List En} (h : Ix 45 w F b l) (k a : Int) (hsz : (l.length + 1) * 16 ≤ 140737488355328) :
    Calls Try.prog 12 #[.pointer (some ⟨b, 0, none⟩), .agg #[.int .i64 k, .int .i64 a]] w (App 45 (appE l (k, a)) (appL l (k, a)) F b w) := by
  obtain ⟨i0, hi0, hz0, hz1, hz2⟩ := info_parts info29
  obtain ⟨⟨⟨p, q⟩, ok⟩, hl⟩ : ∃ r, lastOf l = r := ⟨_, rfl⟩
  have HLs := hide (fun wx (ht : Turn [] w wx) => hl ▸ last_at (h.turn0 ht))
  have hbw : b < w.heap.size := h.lt b h.mem
  have HX := hide h
  obtain ⟨A, c, hF, hB, hO, _⟩ := h
  have HF := hide hF
  have HB := hide (fun wx (ht : Turn [] w wx) => hB.turn ht (by simp))
  have HO := hide (fun wx (ht : Turn [] w wx) => own_turn0 hO ht)
  clear hF hB hO
  by_cases hneg : a < 0
  · have hE : appE l (k, a) = 1 ∧ appL l (k, a) = l := by unfold appE appL; rw [if_pos hneg, if_pos hneg]; exact ⟨rfl, rfl⟩
    rw [hE.1, hE.2]
    clear hE hl
    go_enter Try.func12, Try.ntmps12
    go_wp2_with (go_at_call 20; refine (HLs.out _ (by repeat first | exact Turn.refl _ _ | refine Turn.alloc ?_ _)).mono ?_; rintro e w1 ⟨rfl, ht⟩; obtain ⟨hc, hf, hz⟩ := box_kept ht; have HTb := hide (turn_box ht); have hcb := (HB.out w1 HTb.out).cell 0; have hbw1 := (HB.out w1 HTb.out).lt)
    go_ret
    exact App.same HX.out (by repeat first | exact turn_box ht | exact Turn.refl _ _ | exact (show Hid (Turn [] _ _) by assumption).out | refine Turn.drew ?_ | refine Turn.drewN ?_ _ | refine Turn.alloc ?_ _)
  · have hpos : 0 ≤ a := by omega
    have hE : appE l (k, a) = (if fits l (k, a) = true then 0 else 30) ∧ appL l (k, a) = (if fits l (k, a) = true then l ++ [(k, a)] else l) := by unfold appE appL; rw [if_neg hneg, if_neg hneg]; exact ⟨rfl, rfl⟩
    rw [hE.1, hE.2]
    clear hE hneg
    have hcase : (ok = false ∧ fits l (k, a) = true) ∨ (ok = true ∧ fits l (k, a) = true ∧ q < a ∧ p ≤ k) ∨ (ok = true ∧ ¬ fits l (k, a) = true ∧ a ≤ q) ∨ (ok = true ∧ ¬ fits l (k, a) = true ∧ q < a ∧ k < p) := by
      rcases Nat.eq_zero_or_pos l.length with h0 | h0
      · have hn := List.eq_nil_of_length_eq_zero h0
        subst hn
        rw [lastOf_nil] at hl
        simp at hl
        exact .inl ⟨hl.2, fits_nil _⟩
      · have hfp := fits_pos h0 (k, a)
        rw [lastOf_pos h0] at hl
        simp at hl
        obtain ⟨hpq, rfl⟩ := hl
        rw [hpq] at hfp
        simp only at hfp
        rcases Int.lt_or_le q a with h1 | h1
        · rcases Int.lt_or_le k p with h2 | h2
          · exact .inr (.inr (.inr ⟨rfl, fun hc => by have := hfp.1 hc; omega, h1, h2⟩))
          · exact .inr (.inl ⟨rfl, hfp.2 ⟨h1, h2⟩, h1, h2⟩)
        · exact .inr (.inr (.inl ⟨rfl, fun hc => by have := hfp.1 hc; omega, h1⟩))
    clear hl
    rcases hcase with ⟨rfl, hf⟩ | ⟨rfl, hf, h1, h2⟩ | ⟨rfl, hf, h1⟩ | ⟨rfl, hf, h1, h2⟩
    · rw [if_pos hf, if_pos hf]
      clear hf
      go_enter Try.func12, Try.ntmps12
      go_wp2_with (go_at_call 20; refine (HLs.out _ (by repeat first | exact Turn.refl _ _ | refine Turn.alloc ?_ _)).mono ?_; rintro e w1 ⟨rfl, ht⟩; obtain ⟨hc, hf, hz⟩ := box_kept ht; have HTb := hide (turn_box ht); have hcb := (HB.out w1 HTb.out).cell 0; have hbw1 := (HB.out w1 HTb.out).lt)
      go_region_law (refine step_append_reads _ rfl (.tmp 40) (.tmp 42) 22 rfl 0 29 i0 _ 2 16 Try.underlying22 hi0 hz0 hz1 hz2 rfl (by decide) (.slice A l.length c) l.length (ents l) (by simp [Act.eval, Act.put]) (HO.out _ (by repeat first | exact turn_box ht | exact Turn.refl _ _ | exact (show Hid (Turn [] _ _) by assumption).out | refine Turn.drew ?_ | refine Turn.drewN ?_ _ | refine Turn.alloc ?_ _)) (some ⟨w1.heap.size + 1, 0, none⟩) 1 1 (ents [(k,a)]) (by simp [Act.eval, Act.put]) (reads_blk (by repeat first | exact Blk.new_at (by simp) 29 #[.int .i64 k, .int .i64 a] | refine Blk.drew ?_ | refine Blk.drewN ?_ _) rfl) (ents_oneCell _) (by unfold maxLen; omega) (by omega) (Nat.zero_le _) ?_; intro v1 w2 ho1 hg1 hb1 hn1; obtain ⟨A1, c1, rfl⟩ := own_form ho1; obtain ⟨⟨hcb2, hfb2, hbw2⟩, hT2, F2, hX2, hN2⟩ := ix_app (by decide) HF.out (by repeat first | exact turn_box ht | exact Turn.refl _ _ | exact (show Hid (Turn [] _ _) by assumption).out | refine Turn.drew ?_ | refine Turn.drewN ?_ _ | refine Turn.alloc ?_ _) (HB.out w (Turn.refl _ _)) hsz (HO.out w (Turn.refl _ _)) hg1 ho1 hb1; have HT2 := hide hT2; have HX2 := hide hX2; have HN2 := hide hN2; clear hT2 hX2 hN2 ho1 hg1 hb1 hn1)
      all_goals (go_wp2; go_ret; exact ⟨F2, rfl, HT2.out, HX2.out, HN2.out⟩)
    · rw [if_pos hf, if_pos hf]
      clear hf
      go_enter Try.func12, Try.ntmps12
      go_wp2_with (go_at_call 20; refine (HLs.out _ (by repeat first | exact Turn.refl _ _ | refine Turn.alloc ?_ _)).mono ?_; rintro e w1 ⟨rfl, ht⟩; obtain ⟨hc, hf, hz⟩ := box_kept ht; have HTb := hide (turn_box ht); have hcb := (HB.out w1 HTb.out).cell 0; have hbw1 := (HB.out w1 HTb.out).lt)
      go_region_law (refine step_append_reads _ rfl (.tmp 40) (.tmp 42) 22 rfl 0 29 i0 _ 2 16 Try.underlying22 hi0 hz0 hz1 hz2 rfl (by decide) (.slice A l.length c) l.length (ents l) (by simp [Act.eval, Act.put]) (HO.out _ (by repeat first | exact turn_box ht | exact Turn.refl _ _ | exact (show Hid (Turn [] _ _) by assumption).out | refine Turn.drew ?_ | refine Turn.drewN ?_ _ | refine Turn.alloc ?_ _)) (some ⟨w1.heap.size + 1, 0, none⟩) 1 1 (ents [(k,a)]) (by simp [Act.eval, Act.put]) (reads_blk (by repeat first | exact Blk.new_at (by simp) 29 #[.int .i64 k, .int .i64 a] | refine Blk.drew ?_ | refine Blk.drewN ?_ _) rfl) (ents_oneCell _) (by unfold maxLen; omega) (by omega) (Nat.zero_le _) ?_; intro v1 w2 ho1 hg1 hb1 hn1; obtain ⟨A1, c1, rfl⟩ := own_form ho1; obtain ⟨⟨hcb2, hfb2, hbw2⟩, hT2, F2, hX2, hN2⟩ := ix_app (by decide) HF.out (by repeat first | exact turn_box ht | exact Turn.refl _ _ | exact (show Hid (Turn [] _ _) by assumption).out | refine Turn.drew ?_ | refine Turn.drewN ?_ _ | refine Turn.alloc ?_ _) (HB.out w (Turn.refl _ _)) hsz (HO.out w (Turn.refl _ _)) hg1 ho1 hb1; have HT2 := hide hT2; have HX2 := hide hX2; have HN2 := hide hN2; clear hT2 hX2 hN2 ho1 hg1 hb1 hn1)
      all_goals (go_wp2; go_ret; exact ⟨F2, rfl, HT2.out, HX2.out, HN2.out⟩)
    · rw [if_neg hf, if_neg hf]
      clear hf
      go_enter Try.func12, Try.ntmps12
      go_wp2_with (go_at_call 20; refine (HLs.out _ (by repeat first | exact Turn.refl _ _ | refine Turn.alloc ?_ _)).mono ?_; rintro e w1 ⟨rfl, ht⟩; obtain ⟨hc, hf, hz⟩ := box_kept ht; have HTb := hide (turn_box ht); have hcb := (HB.out w1 HTb.out).cell 0; have hbw1 := (HB.out w1 HTb.out).lt)
      go_ret
      exact App.same HX.out (by repeat first | exact turn_box ht | exact Turn.refl _ _ | exact (show Hid (Turn [] _ _) by assumption).out | refine Turn.drew ?_ | refine Turn.drewN ?_ _ | refine Turn.alloc ?_ _)
    · rw [if_neg hf, if_neg hf]
      clear hf
      go_enter Try.func12, Try.ntmps12
      go_wp2_with (go_at_call 20; refine (HLs.out _ (by repeat first | exact Turn.refl _ _ | refine Turn.alloc ?_ _)).mono ?_; rintro e w1 ⟨rfl, ht⟩; obtain ⟨hc, hf, hz⟩ := box_kept ht; have HTb := hide (turn_box ht); have hcb := (HB.out w1 HTb.out).cell 0; have hbw1 := (HB.out w1 HTb.out).lt)
      go_ret
      exact App.same HX.out (by repeat first | exact turn_box ht | exact Turn.refl _ _ | exact (show Hid (Turn [] _ _) by assumption).out | refine Turn.drew ?_ | refine Turn.drewN ?_ _ | refine Turn.alloc ?_ _)

set_option maxHeartbeats 3200000 in
set_option maxRecDepth 1000000 in
theorem rapp {w : World} {F : List Nat} {b : Nat} {l : List En} (h : Ix 34 w F b l) (k a : Int) (hsz : (l.length + 1) * 16 ≤ 140737488355328) :
    Calls Try.prog 13 #[.pointer (some ⟨b, 0, none⟩), .agg #[.int .i64 k, .int .i64 a]] w (App 34 (appE l (k, a)) (appL l (k, a)) F b w) := by
  obtain ⟨i0, hi0, hz0, hz1, hz2⟩ := info_parts info29
  obtain ⟨⟨⟨p, q⟩, ok⟩, hl⟩ : ∃ r, lastOf l = r := ⟨_, rfl⟩
  have HLs := hide (fun wx (ht : Turn [] w wx) => hl ▸ rlast (h.turn0 ht))
  have hbw : b < w.heap.size := h.lt b h.mem
  have HX := hide h
  obtain ⟨A, c, hF, hB, hO, _⟩ := h
  have HF := hide hF
  have HB := hide (fun wx (ht : Turn [] w wx) => hB.turn ht (by simp))
  have HO := hide (fun wx (ht : Turn [] w wx) => own_turn0 hO ht)
  clear hF hB hO
  by_cases hneg : a < 0
  · have hE : appE l (k, a) = 1 ∧ appL l (k, a) = l := by unfold appE appL; rw [if_pos hneg, if_pos hneg]; exact ⟨rfl, rfl⟩
    rw [hE.1, hE.2]
    clear hE hl
    go_enter Try.func13, Try.ntmps13
    go_wp2_with (go_at_call 28; refine (HLs.out _ (by repeat first | exact Turn.refl _ _ | refine Turn.alloc ?_ _)).mono ?_; rintro e w1 ⟨rfl, ht⟩; obtain ⟨hc, hf, hz⟩ := box_kept ht; have HTb := hide (turn_box ht); have hcb := (HB.out w1 HTb.out).cell 0; have hbw1 := (HB.out w1 HTb.out).lt)
    go_ret
    exact App.same HX.out (by repeat first | exact turn_box ht | exact Turn.refl _ _ | exact (show Hid (Turn [] _ _) by assumption).out | refine Turn.drew ?_ | refine Turn.drewN ?_ _ | refine Turn.alloc ?_ _)
  · have hpos : 0 ≤ a := by omega
    have hE : appE l (k, a) = (if fits l (k, a) = true then 0 else 30) ∧ appL l (k, a) = (if fits l (k, a) = true then l ++ [(k, a)] else l) := by unfold appE appL; rw [if_neg hneg, if_neg hneg]; exact ⟨rfl, rfl⟩
    rw [hE.1, hE.2]
    clear hE hneg
    have hcase : (ok = false ∧ fits l (k, a) = true) ∨ (ok = true ∧ fits l (k, a) = true ∧ q < a ∧ p ≤ k) ∨ (ok = true ∧ ¬ fits l (k, a) = true ∧ a ≤ q) ∨ (ok = true ∧ ¬ fits l (k, a) = true ∧ q < a ∧ k < p) := by
      rcases Nat.eq_zero_or_pos l.length with h0 | h0
      · have hn := List.eq_nil_of_length_eq_zero h0
        subst hn
        rw [lastOf_nil] at hl
        simp at hl
        exact .inl ⟨hl.2, fits_nil _⟩
      · have hfp := fits_pos h0 (k, a)
        rw [lastOf_pos h0] at hl
        simp at hl
        obtain ⟨hpq, rfl⟩ := hl
        rw [hpq] at hfp
        simp only at hfp
        rcases Int.lt_or_le q a with h1 | h1
        · rcases Int.lt_or_le k p with h2 | h2
          · exact .inr (.inr (.inr ⟨rfl, fun hc => by have := hfp.1 hc; omega, h1, h2⟩))
          · exact .inr (.inl ⟨rfl, hfp.2 ⟨h1, h2⟩, h1, h2⟩)
        · exact .inr (.inr (.inl ⟨rfl, fun hc => by have := hfp.1 hc; omega, h1⟩))
    clear hl
    rcases hcase with ⟨rfl, hf⟩ | ⟨rfl, hf, h1, h2⟩ | ⟨rfl, hf, h1⟩ | ⟨rfl, hf, h1, h2⟩
    · rw [if_pos hf, if_pos hf]
      clear hf
      go_enter Try.func13, Try.ntmps13
      go_wp2_with (go_at_call 28; refine (HLs.out _ (by repeat first | exact Turn.refl _ _ | refine Turn.alloc ?_ _)).mono ?_; rintro e w1 ⟨rfl, ht⟩; obtain ⟨hc, hf, hz⟩ := box_kept ht; have HTb := hide (turn_box ht); have hcb := (HB.out w1 HTb.out).cell 0; have hbw1 := (HB.out w1 HTb.out).lt)
      go_region_law (refine step_append_reads _ rfl (.tmp 34) (.tmp 36) 22 rfl 0 29 i0 _ 2 16 Try.underlying22 hi0 hz0 hz1 hz2 rfl (by decide) (.slice A l.length c) l.length (ents l) (by simp [Act.eval, Act.put]) (HO.out _ (by repeat first | exact turn_box ht | exact Turn.refl _ _ | exact (show Hid (Turn [] _ _) by assumption).out | refine Turn.drew ?_ | refine Turn.drewN ?_ _ | refine Turn.alloc ?_ _)) (some ⟨w1.heap.size + 1, 0, none⟩) 1 1 (ents [(k,a)]) (by simp [Act.eval, Act.put]) (reads_blk (by repeat first | exact Blk.new_at (by simp) 29 #[.int .i64 k, .int .i64 a] | refine Blk.drew ?_ | refine Blk.drewN ?_ _) rfl) (ents_oneCell _) (by unfold maxLen; omega) (by omega) (Nat.zero_le _) ?_; intro v1 w2 ho1 hg1 hb1 hn1; obtain ⟨A1, c1, rfl⟩ := own_form ho1; obtain ⟨⟨hcb2, hfb2, hbw2⟩, hT2, F2, hX2, hN2⟩ := ix_app (by decide) HF.out (by repeat first | exact turn_box ht | exact Turn.refl _ _ | exact (show Hid (Turn [] _ _) by assumption).out | refine Turn.drew ?_ | refine Turn.drewN ?_ _ | refine Turn.alloc ?_ _) (HB.out w (Turn.refl _ _)) hsz (HO.out w (Turn.refl _ _)) hg1 ho1 hb1; have HT2 := hide hT2; have HX2 := hide hX2; have HN2 := hide hN2; clear hT2 hX2 hN2 ho1 hg1 hb1 hn1)
      all_goals (go_wp2; go_ret; exact ⟨F2, rfl, HT2.out, HX2.out, HN2.out⟩)
    · rw [if_pos hf, if_pos hf]
      clear hf
      go_enter Try.func13, Try.ntmps13
      go_wp2_with (go_at_call 28; refine (HLs.out _ (by repeat first | exact Turn.refl _ _ | refine Turn.alloc ?_ _)).mono ?_; rintro e w1 ⟨rfl, ht⟩; obtain ⟨hc, hf, hz⟩ := box_kept ht; have HTb := hide (turn_box ht); have hcb := (HB.out w1 HTb.out).cell 0; have hbw1 := (HB.out w1 HTb.out).lt)
      go_region_law (refine step_append_reads _ rfl (.tmp 34) (.tmp 36) 22 rfl 0 29 i0 _ 2 16 Try.underlying22 hi0 hz0 hz1 hz2 rfl (by decide) (.slice A l.length c) l.length (ents l) (by simp [Act.eval, Act.put]) (HO.out _ (by repeat first | exact turn_box ht | exact Turn.refl _ _ | exact (show Hid (Turn [] _ _) by assumption).out | refine Turn.drew ?_ | refine Turn.drewN ?_ _ | refine Turn.alloc ?_ _)) (some ⟨w1.heap.size + 1, 0, none⟩) 1 1 (ents [(k,a)]) (by simp [Act.eval, Act.put]) (reads_blk (by repeat first | exact Blk.new_at (by simp) 29 #[.int .i64 k, .int .i64 a] | refine Blk.drew ?_ | refine Blk.drewN ?_ _) rfl) (ents_oneCell _) (by unfold maxLen; omega) (by omega) (Nat.zero_le _) ?_; intro v1 w2 ho1 hg1 hb1 hn1; obtain ⟨A1, c1, rfl⟩ := own_form ho1; obtain ⟨⟨hcb2, hfb2, hbw2⟩, hT2, F2, hX2, hN2⟩ := ix_app (by decide) HF.out (by repeat first | exact turn_box ht | exact Turn.refl _ _ | exact (show Hid (Turn [] _ _) by assumption).out | refine Turn.drew ?_ | refine Turn.drewN ?_ _ | refine Turn.alloc ?_ _) (HB.out w (Turn.refl _ _)) hsz (HO.out w (Turn.refl _ _)) hg1 ho1 hb1; have HT2 := hide hT2; have HX2 := hide hX2; have HN2 := hide hN2; clear hT2 hX2 hN2 ho1 hg1 hb1 hn1)
      all_goals (go_wp2; go_ret; exact ⟨F2, rfl, HT2.out, HX2.out, HN2.out⟩)
    · rw [if_neg hf, if_neg hf]
      clear hf
      go_enter Try.func13, Try.ntmps13
      go_wp2_with (go_at_call 28; refine (HLs.out _ (by repeat first | exact Turn.refl _ _ | refine Turn.alloc ?_ _)).mono ?_; rintro e w1 ⟨rfl, ht⟩; obtain ⟨hc, hf, hz⟩ := box_kept ht; have HTb := hide (turn_box ht); have hcb := (HB.out w1 HTb.out).cell 0; have hbw1 := (HB.out w1 HTb.out).lt)
      go_ret
      exact App.same HX.out (by repeat first | exact turn_box ht | exact Turn.refl _ _ | exact (show Hid (Turn [] _ _) by assumption).out | refine Turn.drew ?_ | refine Turn.drewN ?_ _ | refine Turn.alloc ?_ _)
    · rw [if_neg hf, if_neg hf]
      clear hf
      go_enter Try.func13, Try.ntmps13
      go_wp2_with (go_at_call 28; refine (HLs.out _ (by repeat first | exact Turn.refl _ _ | refine Turn.alloc ?_ _)).mono ?_; rintro e w1 ⟨rfl, ht⟩; obtain ⟨hc, hf, hz⟩ := box_kept ht; have HTb := hide (turn_box ht); have hcb := (HB.out w1 HTb.out).cell 0; have hbw1 := (HB.out w1 HTb.out).lt)
      go_ret
      exact App.same HX.out (by repeat first | exact turn_box ht | exact Turn.refl _ _ | exact (show Hid (Turn [] _ _) by assumption).out | refine Turn.drew ?_ | refine Turn.drewN ?_ _ | refine Turn.alloc ?_ _)

set_option maxHeartbeats 1600000 in
theorem app_nil (w : World) (k a : Int) : Calls Try.prog 12 #[.pointer none, .agg #[.int .i64 k, .int .i64 a]] w (Same (.int .i64 (if a < 0 then 1 else 4)) w) := by
  by_cases h : a < 0
  · rw [if_pos h]
    go_enter Try.func12, Try.ntmps12
    go_wp2_with (go_at_call 20; refine (last_nil _).mono ?_; rintro e w1 ⟨rfl, ht⟩; obtain ⟨hc, hf, hz⟩ := box_kept ht)
    go_ret
    exact ⟨rfl, (by repeat first | exact turn_box ht | exact Turn.refl _ _ | exact (show Hid (Turn [] _ _) by assumption).out | refine Turn.drew ?_ | refine Turn.drewN ?_ _ | refine Turn.alloc ?_ _)⟩
  · rw [if_neg h]
    have h' : 0 ≤ a := by omega
    clear h
    go_enter Try.func12, Try.ntmps12
    go_wp2_with (go_at_call 20; refine (last_nil _).mono ?_; rintro e w1 ⟨rfl, ht⟩; obtain ⟨hc, hf, hz⟩ := box_kept ht)
    go_ret
    exact ⟨rfl, (by repeat first | exact turn_box ht | exact Turn.refl _ _ | exact (show Hid (Turn [] _ _) by assumption).out | refine Turn.drew ?_ | refine Turn.drewN ?_ _ | refine Turn.alloc ?_ _)⟩
set_option maxHeartbeats 1600000 in
theorem cut_nil (w : World) (n : Int) : Calls Try.prog 16 #[.pointer none, .int .i64 n] w fun e w' => e = .returned (.int .i64 (cutE [] n)) ∧ w = w' := by
  have hE : cutE [] n = if 0 ≤ n ∧ n ≤ 0 then 0 else 1 := rfl
  rw [hE]
  clear hE
  rcases (show n < 0 ∨ n = 0 ∨ 0 < n by omega) with h | rfl | h
  · rw [if_neg (by omega)]
    go_enter Try.func16, Try.ntmps16
    go_wp2_with (go_at_call 21; refine (len_nil _).mono ?_; rintro e w' ⟨rfl, rfl⟩)
    go_ret
    exact ⟨rfl, rfl⟩
  · rw [if_pos (by omega)]
    go_enter Try.func16, Try.ntmps16
    go_wp2_with (go_at_call 21; refine (len_nil _).mono ?_; rintro e w' ⟨rfl, rfl⟩)
    go_ret
    exact ⟨rfl, rfl⟩
  · rw [if_neg (by omega)]
    have h' : 0 ≤ n := by omega
    go_enter Try.func16, Try.ntmps16
    go_wp2_with (go_at_call 21; refine (len_nil _).mono ?_; rintro e w' ⟨rfl, rfl⟩)
    go_ret
    exact ⟨rfl, rfl⟩
set_option maxHeartbeats 1600000 in
theorem cut_at {w : World} {F : List Nat} {b : Nat} {l : List En} (h : Ix 45 w F b l) (n : Int) : Calls Try.prog 16 #[.pointer (some ⟨b, 0, none⟩), .int .i64 n] w (App 45 (cutE l n) (cutL l n) F b w) := by
  have HT := hide (len_at h)
  have HX := hide h
  by_cases hin : 0 ≤ n ∧ n ≤ l.length
  · have he : cutE l n = 0 ∧ cutL l n = l.take n.toNat := by unfold cutE cutL; rw [if_pos hin, if_pos hin]; exact ⟨rfl, rfl⟩
    rw [he.1, he.2]
    obtain ⟨k, rfl⟩ := Int.eq_ofNat_of_zero_le hin.1
    have hk : k ≤ l.length := by omega
    rw [show (k : Int).toNat = k from rfl]
    have hd1 : ¬ (k : Int) < 0 := by omega
    have hd2 : ¬ (l.length : Int) < (k : Int) := by omega
    obtain ⟨A, c, hF, hB, hO, hsz⟩ := h
    have hcap := own_cap hO
    have hc0 := hB.cell 0
    have hf0 := hB.frozen 0
    have hbl := hB.lt
    have hkc : (k : Int) ≤ (c : Int) := by omega
    have hne : b ∉ blockOf A := fun h => own_blk_ne hO hB (by decide) (mem_blockOf.2 h)
    have HB := hide hB
    have HO := hide (own_cut hO hk)
    have HF := hide hF
    have HN := hide hne
    clear hB hO hF hne he hin
    go_enter Try.func16, Try.ntmps16
    go_wp2_with (go_at_call 21; refine HT.out.mono ?_; rintro e w' ⟨rfl, rfl⟩)
    go_ret
    have hlen : (l.take k).length = k := by rw [List.length_take]; omega
    refine ⟨F, rfl, ?_, ⟨A, c, HF.out, ?_, ?_, by omega⟩, fun x hx => .inl hx⟩
    · exact (Turn.refl _ _).setCell (.inl (by rw [HF.out]; simp)) _
    · rw [hlen]; simpa using HB.out.set_ 0 (.slice A k c)
    · rw [hlen, ← ents_take]
      exact own_turn HO.out (turn_set w b 0 _) (fun g hg => by
        have := mem_blockOf.1 hg
        simp; rintro rfl; exact HN.out this)
  · have he : cutE l n = 1 ∧ cutL l n = l := by unfold cutE cutL; rw [if_neg hin, if_neg hin]; exact ⟨rfl, rfl⟩
    rw [he.1, he.2]
    clear h
    rcases (show n < 0 ∨ (0 ≤ n ∧ (l.length : Int) < n) by omega) with h0 | ⟨h0, h1⟩
    all_goals
      clear hin he
      go_enter Try.func16, Try.ntmps16
      go_wp2_with (go_at_call 21; refine HT.out.mono ?_; rintro e w' ⟨rfl, rfl⟩)
      go_ret
      exact App.same HX.out (Turn.refl _ _)
set_option maxHeartbeats 3200000 in
set_option maxRecDepth 100000 in
theorem rcut {w : World} {F : List Nat} {b : Nat} {l : List En} (h : Ix 34 w F b l) (n : Int) : Calls Try.prog 17 #[.pointer (some ⟨b, 0, none⟩), .int .i64 n] w (App 34 (cutE l n) (cutL l n) F b w) := by
  obtain ⟨i0, hi0, hz0, hz1, hz2⟩ := info_parts info29
  have HX := hide h
  have hbF := h.mem
  by_cases hin : 0 ≤ n ∧ n ≤ l.length
  · have he : cutE l n = 0 ∧ cutL l n = l.take n.toNat := by unfold cutE cutL; rw [if_pos hin, if_pos hin]; exact ⟨rfl, rfl⟩
    rw [he.1, he.2]
    obtain ⟨k, rfl⟩ := Int.eq_ofNat_of_zero_le hin.1
    have hk : k ≤ l.length := by omega
    rw [show (k : Int).toNat = k from rfl]
    have hd1 : ¬ (k : Int) < 0 := by omega
    have hd2 : ¬ (l.length : Int) < (k : Int) := by omega
    obtain ⟨A, c, hF, hB, hO, hsz⟩ := h
    have hcap := own_cap hO
    have hc0 := hB.cell 0
    have hf0 := hB.frozen 0
    have hbl := hB.lt
    have hkc : (k : Int) ≤ (c : Int) := by omega
    have HB := hide hB
    have HR := hide (by have := (Reads.of_own hO).take hk; rwa [ents_take] at this : Reads w 2 A k (ents (l.take k)))
    have hlen : (l.take k).length = k := by rw [List.length_take]; omega
    have HLen := hide hlen
    clear hB hO hF he hin hlen
    go_enter Try.func17, Try.ntmps17
    go_wp2_with (at_builtin; refine wpList_append_reads _ rfl (.tmp 17) (.tmp 23) 22 rfl 0 29 i0 _ 2 16 Try.underlying22 hi0 hz0 hz1 hz2 rfl (by decide) (.slice none 0 0) 0 [] rfl (World.ownsRow_nil _ _ _ _) A k c (ents (l.take k)) rfl HR.out (ents_oneCell _) (by unfold maxLen; omega) (by omega) (Nat.zero_le _) ?_)
    intro v2 w2 ho2 hg2 hb2 hn2
    obtain ⟨A2, c2, rfl, ho3, _⟩ := (OwnR.none_ w 29 2 (Turn.refl _ _)).app (Turn.refl _ _) hg2 ho2 hb2
    have HO3 : Hid (OwnR w 29 2 A2 k c2 (ents (l.take k)) w2) := hide (by simpa using ho3)
    have HB2 := hide (HB.out.turn ho3.turn (by simp))
    have hcb := HB2.out.cell 0
    have hfb := HB2.out.frozen 0
    have hzb := HB2.out.lt
    have hnb : Hid (b ∉ blockOf A2) := hide (fun hm => by have := HO3.out.new b hm; omega)
    clear ho2 hg2 hb2 hn2 ho3 hc0 hf0
    go_wp2_with fail
    go_ret
    refine ⟨b :: blockOf A2, rfl, (HO3.out.turn.mono (by simp)).setCell (.inl hbF) _, ⟨A2, c2, rfl, ?_, ?_, by rw [HLen.out]; omega⟩, ?_⟩
    · rw [HLen.out]; simpa using HB2.out.set_ 0 (.slice A2 k c2)
    · rw [HLen.out]
      exact own_turn HO3.out.own (turn_set w2 b 0 _) (fun g hg => by have := mem_blockOf.1 hg; simp; rintro rfl; exact hnb.out this)
    · intro x hx
      rcases List.mem_cons.1 hx with rfl | hx
      · exact .inl hbF
      · exact .inr (HO3.out.new x hx)
  · have he : cutE l n = 1 ∧ cutL l n = l := by unfold cutE cutL; rw [if_neg hin, if_neg hin]; exact ⟨rfl, rfl⟩
    rw [he.1, he.2]
    obtain ⟨A, c, hc0, _, _, hbw, _⟩ := h.cell
    clear h
    rcases (show n < 0 ∨ (0 ≤ n ∧ (l.length : Int) < n) by omega) with h0 | ⟨h0, h1⟩
    all_goals
      clear hin he
      go_enter Try.func17, Try.ntmps17
      go_wp2_with fail
      go_ret
      exact App.same HX.out (Turn.refl _ _)
end Go.Proofs.Ytlnjemdnmndnfaa

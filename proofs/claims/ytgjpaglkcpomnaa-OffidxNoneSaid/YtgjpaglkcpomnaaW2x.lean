/- What Add and Find come to, walked. -/
import Derived.Test.YtgjpaglkcpomnaaW1x
namespace Go.Proofs.Ytgjpaglkcpomnaa
set_option linter.unusedVariables false
set_option linter.unusedSimpArgs false
open Go.RowKit K

def Same (v : Value) (w : World) (e : Ending) (w' : World) : Prop := e = .returned v ∧ Turn [] w w'
def Added (l : List En) (F : List Nat) (b : Nat) (w : World) (e : Ending) (w' : World) : Prop :=
  e = .returned (.int .i64 0) ∧ Turn F w w' ∧ ∃ F', Idx w' F' b l ∧ ∀ k ∈ F', k ∈ F ∨ w.heap.size ≤ k

set_option maxHeartbeats 1600000 in
theorem add_no {w : World} {F : List Nat} {b : Nat} {l : List En} (h : Idx w F b l) (k a p q : Int) (ok : Bool) (hl : lastOf l = ((p, q), ok))
    (hn : k < 0 ∨ a < 0 ∨ (ok = true ∧ (k ≤ p ∨ a ≤ q))) :
    Calls Try.prog 31 #[.pointer (some ⟨b, 0, none⟩), .agg #[.int .i64 k, .int .i64 a]] w (Same (.int .i64 30) w) := by
  have H := hide (fun o => hl ▸ last_at (h.turn0 ((Turn.refl _ _).alloc o)))
  clear h hl
  have hk : k < 0 ∨ 0 ≤ k := by omega
  have ha : a < 0 ∨ 0 ≤ a := by omega
  rcases hn with hn | hn | ⟨rfl, hn | hn⟩ <;> rcases hk with hk | hk <;> rcases ha with ha | ha
  all_goals first
    | omega
    | (go_enter Try.func31, Try.ntmps31
       go_wp2_with (go_at_call 22; refine (H.out _).mono ?_; rintro e w1 ⟨rfl, ht⟩; obtain ⟨hc, hf, hz⟩ := box_kept ht)
       all_goals (go_ret; exact ⟨rfl, (turn_box ht).alloc _⟩))
theorem turn_set (w : World) (b o : Nat) (v : Value) : Turn [b] w (w.setCell ⟨b, o, none⟩ v) := (Turn.refl _ _).setCell (.inl (by simp)) _
theorem added_end {w W w2 : World} {F : List Nat} {b c c1 : Nat} {l : List En} {e : En} {A A1 : Option Addr} (hF : F = b :: blockOf A) (t : Turn [] w W) (hB : Blk w b 46 #[.slice A l.length c])
    (hsz : (l.length + 1) * 16 ≤ 140737488355328) (hO : w.ownsRow 0 30 2 (.slice A l.length c) l.length (ents l)) (hg : W.grownBy w2 (Value.slice A l.length c).ownBlock) (ho : w2.ownsRow 0 30 2 (.slice A1 (l.length + 1) c1) (l.length + 1) (ents l ++ ents [e]))
    (hb : (Value.slice A1 (l.length + 1) c1).ownBlock = (Value.slice A l.length c).ownBlock ∨ (Value.slice A1 (l.length + 1) c1).ownBlock = some W.heap.size) :
    Turn F w (w2.setCell ⟨b, 0, none⟩ (.slice A1 (l.length + 1) c1)) ∧ ∃ F', Idx (w2.setCell ⟨b, 0, none⟩ (.slice A1 (l.length + 1) c1)) F' b (l ++ [e]) ∧ ∀ k ∈ F', k ∈ F ∨ w.heap.size ≤ k := by
  have hne : (Value.slice A l.length c).ownBlock ≠ some b := own_blk_ne hO hB (by decide)
  have kb : Blk w2 b 46 #[.slice A l.length c] := (hB.turn t (by simp)).grown hg hne.symm
  have kb2 := kb.set_ 0 (.slice A1 (l.length + 1) c1)
  have hne2 : (Value.slice A1 (l.length + 1) c1).ownBlock ≠ some b := own_blk_ne ho kb (by decide)
  subst hF
  have tw : Turn (b :: blockOf A) w w2 := (t.mono (by simp)).grown hg (fun g hg' => .inl (by rw [ownBlock_slice] at hg'; simp [blockOf, hg']))
  refine ⟨tw.setCell (.inl (by simp)) _, b :: blockOf A1, ⟨A1, c1, rfl, ?_, ?_, by simpa using hsz⟩, ?_⟩
  · simpa using kb2
  · have := own_turn ho (turn_set w2 b 0 (.slice A1 (l.length + 1) c1)) (fun g hg' => by rw [hg'] at hne2; simpa using hne2)
    simpa [ents_append] using this
  · intro k hk
    simp only [List.mem_cons] at hk ⊢
    rcases hk with rfl | hk
    · exact .inl (.inl rfl)
    · have hk' : (Value.slice A1 (l.length + 1) c1).ownBlock = some k := by rw [ownBlock_slice]; simpa [blockOf] using hk
      rcases hb with hb | hb
      · rw [hb, ownBlock_slice] at hk'
        exact .inl (.inr (by simp [blockOf, hk']))
      · rw [hb] at hk'
        injection hk' with hk'
        subst hk'
        exact .inr t.size

set_option maxHeartbeats 1600000 in
set_option maxRecDepth 1000000 in
theorem add_yes {w : World} {F : List Nat} {b : Nat} {l : List En} (h : Idx w F b l) (k a p q : Int) (ok : Bool) (hl : lastOf l = ((p, q), ok))
    (hk : 0 ≤ k) (ha : 0 ≤ a) (hy : ok = false ∨ (p < k ∧ q < a)) (hsz : (l.length + 1) * 16 ≤ 140737488355328) :
    Calls Try.prog 31 #[.pointer (some ⟨b, 0, none⟩), .agg #[.int .i64 k, .int .i64 a]] w (Added (l ++ [(k, a)]) F b w) := by
  obtain ⟨i0, hi0, hz0, hz1, hz2⟩ := info_parts info30
  have H := hide (fun o => hl ▸ last_at (h.turn0 ((Turn.refl _ _).alloc o)))
  have hbw : b < w.heap.size := h.lt b h.mem
  obtain ⟨A, c, hF, hB, hO, _⟩ := h
  have hne : (Value.slice A l.length c).ownBlock ≠ some b := own_blk_ne hO hB (by decide)
  have HF := hide hF
  have HB := hide (fun wx (ht : Turn [] w wx) => hB.turn ht (by simp))
  have HO := hide (fun wx (ht : Turn [] w wx) => own_turn hO ht (by simp))
  clear hF hl hB hO
  have hcase : (ok = false ∧ True) ∨ (ok = true ∧ p < k ∧ q < a) := by cases ok <;> simp_all
  rcases hcase with ⟨rfl, _⟩ | ⟨rfl, hp, hq⟩
  · clear hy
    go_enter Try.func31, Try.ntmps31
    go_wp2_with (go_at_call 22; refine (H.out _).mono ?_; rintro e w1 ⟨rfl, ht⟩; obtain ⟨hc, hf, hz⟩ := box_kept ht; have hcb := (HB.out w1 (turn_box ht)).cell 0; have hbw1 := (HB.out w1 (turn_box ht)).lt)
    go_region_law (refine step_append_reads _ rfl (.tmp 44) (.tmp 46) 23 rfl 0 30 i0 _ 2 16 Try.underlying23 hi0 hz0 hz1 hz2 rfl (by decide) (.slice A l.length c) l.length (ents l) (by simp [Act.eval, Act.put]) (HO.out _ (by repeat first | exact turn_box ht | exact Turn.refl _ _ | refine Turn.drew ?_ | refine Turn.drewN ?_ _ | refine Turn.alloc ?_ _)) (some ⟨w1.heap.size + 1, 0, none⟩) 1 1 (ents [(k,a)]) (by simp [Act.eval, Act.put]) (reads_blk ((Blk.new_at (by simp) 30 #[.int .i64 k, .int .i64 a]).drew) rfl) (ents_oneCell _) (by unfold maxLen; omega) (by omega) (Nat.zero_le _) ?_; intro v1 w2 ho1 hg1 hb1 hn1; obtain ⟨A1, c1, rfl⟩ := own_form ho1; have tw := Turn.mono (G := F) (by repeat first | exact turn_box ht | exact Turn.refl _ _ | refine Turn.drew ?_ | refine Turn.drewN ?_ _ | refine Turn.alloc ?_ _) (by simp); have kb := ((HB.out _ (by repeat first | exact turn_box ht | exact Turn.refl _ _ | refine Turn.drew ?_ | refine Turn.drewN ?_ _ | refine Turn.alloc ?_ _)).grown hg1 (hne.symm)); have k0 := kb.cell 0; have f0 := kb.frozen 0)
    all_goals (go_wp2; go_ret; exact ⟨rfl, added_end HF.out (by repeat first | exact turn_box ht | exact Turn.refl _ _ | refine Turn.drew ?_ | refine Turn.drewN ?_ _ | refine Turn.alloc ?_ _) (HB.out w (Turn.refl _ _)) hsz (HO.out w (Turn.refl _ _)) hg1 ho1 hb1⟩)
  · clear hy
    go_enter Try.func31, Try.ntmps31
    go_wp2_with (go_at_call 22; refine (H.out _).mono ?_; rintro e w1 ⟨rfl, ht⟩; obtain ⟨hc, hf, hz⟩ := box_kept ht; have hcb := (HB.out w1 (turn_box ht)).cell 0; have hbw1 := (HB.out w1 (turn_box ht)).lt)
    go_region_law (refine step_append_reads _ rfl (.tmp 44) (.tmp 46) 23 rfl 0 30 i0 _ 2 16 Try.underlying23 hi0 hz0 hz1 hz2 rfl (by decide) (.slice A l.length c) l.length (ents l) (by simp [Act.eval, Act.put]) (HO.out _ (by repeat first | exact turn_box ht | exact Turn.refl _ _ | refine Turn.drew ?_ | refine Turn.drewN ?_ _ | refine Turn.alloc ?_ _)) (some ⟨w1.heap.size + 1, 0, none⟩) 1 1 (ents [(k,a)]) (by simp [Act.eval, Act.put]) (reads_blk ((Blk.new_at (by simp) 30 #[.int .i64 k, .int .i64 a]).drew) rfl) (ents_oneCell _) (by unfold maxLen; omega) (by omega) (Nat.zero_le _) ?_; intro v1 w2 ho1 hg1 hb1 hn1; obtain ⟨A1, c1, rfl⟩ := own_form ho1; have tw := Turn.mono (G := F) (by repeat first | exact turn_box ht | exact Turn.refl _ _ | refine Turn.drew ?_ | refine Turn.drewN ?_ _ | refine Turn.alloc ?_ _) (by simp); have kb := ((HB.out _ (by repeat first | exact turn_box ht | exact Turn.refl _ _ | refine Turn.drew ?_ | refine Turn.drewN ?_ _ | refine Turn.alloc ?_ _)).grown hg1 (hne.symm)); have k0 := kb.cell 0; have f0 := kb.frozen 0)
    all_goals (go_wp2; go_ret; exact ⟨rfl, added_end HF.out (by repeat first | exact turn_box ht | exact Turn.refl _ _ | refine Turn.drew ?_ | refine Turn.drewN ?_ _ | refine Turn.alloc ?_ _) (HB.out w (Turn.refl _ _)) hsz (HO.out w (Turn.refl _ _)) hg1 ho1 hb1⟩)
end Go.Proofs.Ytgjpaglkcpomnaa

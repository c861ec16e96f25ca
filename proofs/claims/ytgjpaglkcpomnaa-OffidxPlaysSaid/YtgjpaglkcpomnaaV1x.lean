/- The document's own index, walked: New, Len, Entry, Last, Fits, Add, Entries, Find, Looks, Cut, Clone. -/
import Derived.Test.YtgjpaglkcpomnaaW9x
namespace Go.Proofs.Ytgjpaglkcpomnaa
set_option linter.unusedVariables false
set_option linter.unusedSimpArgs false
open Go.RowKit K

/-- the document's index in memory: its block, the row that it owns, the entries. F: the blocks that are its own. -/
def RIdx (w : World) (F : List Nat) (b : Nat) (l : List En) : Prop :=
  ∃ A c, F = b :: blockOf A ∧ Blk w b 71 #[.slice A l.length c] ∧ w.ownsRow 0 30 2 (.slice A l.length c) l.length (ents l) ∧ l.length * 16 ≤ 140737488355328
theorem RIdx.lt {w : World} {F : List Nat} {b : Nat} {l : List En} (h : RIdx w F b l) : ∀ k ∈ F, k < w.heap.size := by
  obtain ⟨A, c, rfl, hb, ho, hsz⟩ := h
  intro k hk
  simp only [List.mem_cons] at hk
  rcases hk with rfl | hk
  · exact hb.lt
  · refine (ho.lt k ?_).2
    rw [ownBlock_slice]
    simpa [blockOf] using hk
theorem RIdx.mem {w : World} {F : List Nat} {b : Nat} {l : List En} (h : RIdx w F b l) : b ∈ F := by
  obtain ⟨A, c, rfl, hb, ho, hsz⟩ := h
  simp
theorem RIdx.turn {w w1 : World} {F G : List Nat} {b : Nat} {l : List En} (h : RIdx w F b l) (ht : Turn G w w1) (hd : ∀ k ∈ F, k ∉ G) : RIdx w1 F b l := by
  obtain ⟨A, c, rfl, hb, ho, hsz⟩ := h
  refine ⟨A, c, rfl, hb.turn ht (hd _ (by simp)), own_turn ho ht ?_, hsz⟩
  intro g hg
  rw [ownBlock_slice] at hg
  exact hd g (by simp [blockOf, hg])
theorem RIdx.turn0 {w w1 : World} {F : List Nat} {b : Nat} {l : List En} (h : RIdx w F b l) (ht : Turn [] w w1) : RIdx w1 F b l := h.turn ht (by simp)

theorem RIdx.cell {w : World} {F : List Nat} {b : Nat} {l : List En} (h : RIdx w F b l) : ∃ A c, w.cell? ⟨b, 0, none⟩ = some (.slice A l.length c) ∧ Reads w 2 A l.length (ents l) ∧ l.length * 16 ≤ 140737488355328 ∧ b < w.heap.size := by
  obtain ⟨A, c, rfl, hb, ho, hsz⟩ := h
  exact ⟨A, c, hb.cell 0, Reads.of_own ho, hsz, hb.lt⟩

set_option maxHeartbeats 400000 in
theorem rnew (w : World) : Calls Try.prog 15 #[] w fun e w' => ∃ b, e = .returned (.pointer (some ⟨b, 0, none⟩)) ∧ w.heap.size ≤ b ∧ Turn [] w w' ∧ RIdx w' [b] b [] := by
  go_enter Try.func15, Try.ntmps15
  go_wp2
  go_ret
  exact ⟨w.heap.size, rfl, Nat.le_refl _, (Turn.refl _ _).alloc _, none, 0, rfl, Blk.new _ _ _, World.ownsRow_nil _ _ _ _, by simp⟩
set_option maxHeartbeats 400000 in
theorem rlen {w : World} {F : List Nat} {b : Nat} {l : List En} (h : RIdx w F b l) :
    Calls Try.prog 36 #[.pointer (some ⟨b, 0, none⟩)] w fun e w' => e = .returned (.int .i64 l.length) ∧ w = w' := by
  obtain ⟨A, c, hc, _⟩ := h.cell
  clear h
  go_enter Try.func36, Try.ntmps36
  go_wp2
  go_ret
  exact ⟨rfl, rfl⟩
set_option maxHeartbeats 400000 in
theorem rentry_in (w : World) (b g off : Nat) (n c : Nat) (h : w.cell? ⟨b, 0, none⟩ = some (.slice (some ⟨g, off, none⟩) n c)) (k : Nat) (hk : k < n) (hn : n ≤ 9223372036854775807) (x y : Int)
   (hx : w.cell? ⟨g, off + k * 2, none⟩ = some (.int .i64 x)) (hy : w.cell? ⟨g, off + k * 2 + 1, none⟩ = some (.int .i64 y)) (hb : b < w.heap.size) (hab : g < w.heap.size) :
    Calls Try.prog 43 #[.pointer (some ⟨b, 0, none⟩), .int .i64 k] w (Ent ((x, y), true) w) := by
  have hd1 : ¬ (k : Int) < 0 := by omega
  go_enter Try.func43, Try.ntmps43
  go_wp2_with fail
  exact bodyPost_ret (v := .tuple #[.agg #[.int .i64 x, .int .i64 y], .bool true]) (by simp [results, Try.results43, go_sem]) rfl ⟨rfl, ((Turn.refl _ _).alloc _)⟩
set_option maxHeartbeats 400000 in
theorem rentry_out (w : World) (b : Nat) (A : Option Addr) (n c : Nat) (h : w.cell? ⟨b, 0, none⟩ = some (.slice A n c)) (i : Int) (hi : i < 0 ∨ n ≤ i) (hb : b < w.heap.size) :
    Calls Try.prog 43 #[.pointer (some ⟨b, 0, none⟩), .int .i64 i] w (Ent ((0, 0), false) w) := by
  rcases hi with hi | hi
  · go_enter Try.func43, Try.ntmps43
    go_wp2_with fail
    exact bodyPost_ret (v := .tuple #[.agg #[.int .i64 0, .int .i64 0], .bool false]) (by simp [results, Try.results43, go_sem]) rfl ⟨rfl, ((Turn.refl _ _).alloc _)⟩
  · have hi' : ¬ i < 0 := by omega
    go_enter Try.func43, Try.ntmps43
    go_wp2_with fail
    exact bodyPost_ret (v := .tuple #[.agg #[.int .i64 0, .int .i64 0], .bool false]) (by simp [results, Try.results43, go_sem]) rfl ⟨rfl, ((Turn.refl _ _).alloc _)⟩
theorem rentry {w : World} {F : List Nat} {b : Nat} {l : List En} (h : RIdx w F b l) (i : Int) :
    Calls Try.prog 43 #[.pointer (some ⟨b, 0, none⟩), .int .i64 i] w (Ent (entryOf l i) w) := by
  obtain ⟨A, c, hc, hr, hm, hb⟩ := h.cell
  by_cases hi : 0 ≤ i ∧ i < l.length
  · obtain ⟨k, rfl⟩ := Int.eq_ofNat_of_zero_le hi.1
    have hk : k < l.length := by omega
    obtain ⟨g, off, rfl, hg, hx, hy⟩ := reads_ent hr hk
    rw [show (((k : Nat) : Int) : Int) = (k : Int) from rfl, entryOf_in hk]
    exact rentry_in w b g off _ c hc k hk (by omega) _ _ hx hy hb hg
  · rw [entryOf_out (by omega)]
    exact rentry_out w b A _ c hc i (by omega) hb
set_option maxHeartbeats 400000 in
theorem rlast {w : World} {F : List Nat} {b : Nat} {l : List En} (h : RIdx w F b l) : Calls Try.prog 35 #[.pointer (some ⟨b, 0, none⟩)] w (Ent (lastOf l) w) := by
  obtain ⟨A, c, hc0, _, hm, hbw⟩ := h.cell
  have T := hide (fun o => rentry (h.turn0 ((Turn.refl _ _).alloc o)) ((l.length : Int) - 1))
  clear h
  go_enter Try.func35, Try.ntmps35
  go_wp2_with (go_at_call 43; refine (T.out _).mono ?_; rintro e w1 ⟨rfl, ht⟩; obtain ⟨hc, hf, hz⟩ := box_kept ht)
  exact bodyPost_ret (v := .tuple #[.agg #[.int .i64 (lastOf l).1.1, .int .i64 (lastOf l).1.2], .bool (lastOf l).2]) (by simp [results, Try.results35, go_sem, hc, hf, hz, lastOf]) rfl ⟨rfl, ((turn_box ht).setCell (.inr (by simp)) _).setCell (.inr (by simp)) _⟩

set_option maxHeartbeats 1600000 in
set_option maxRecDepth 100000 in
/-- Fits. -/
theorem rfits {w : World} {A : Option Addr} {l : List En} (c : Nat) (hr : Reads w 2 A l.length (ents l)) (hsz : l.length * 16 ≤ 140737488355328) (x y : Int) :
    Calls Try.prog 55 #[.slice A l.length c, .agg #[.int .i64 x, .int .i64 y]] w (Same (.bool (fits l (x, y))) w) := by
  rcases Int.lt_or_le x 0 with h1 | h1
  · have hf : fits l (x, y) = false := by rw [Bool.eq_false_iff]; intro hc; have := ((fits_iff (l := l) rfl).1 hc).1; omega
    rw [hf]
    clear hr hf
    go_enter Try.func55, Try.ntmps55
    go_wp2_with fail
    go_ret
    exact ⟨rfl, (Turn.refl _ _).alloc _⟩
  · rcases Int.lt_or_le y 0 with h2 | h2
    · have hf : fits l (x, y) = false := by rw [Bool.eq_false_iff]; intro hc; have := ((fits_iff (l := l) rfl).1 hc).2.1; omega
      rw [hf]
      clear hr hf
      go_enter Try.func55, Try.ntmps55
      go_wp2_with fail
      go_ret
      exact ⟨rfl, (Turn.refl _ _).alloc _⟩
    · have hn1 : ¬ x < 0 := by omega
      have hn2 : ¬ y < 0 := by omega
      rcases Nat.eq_zero_or_pos l.length with h0 | h0
      · have hf : fits l (x, y) = true := by rw [List.eq_nil_of_length_eq_zero h0]; exact fits_nil h1 h2
        rw [hf]
        have h00 : ((l.length : Int) == 0) = true := by rw [h0]; rfl
        clear hr hf h0
        go_enter Try.func55, Try.ntmps55
        go_wp2_with fail
        go_ret
        exact ⟨rfl, (Turn.refl _ _).alloc _⟩
      · obtain ⟨m, hm⟩ : ∃ m, l.length = m + 1 := ⟨l.length - 1, by omega⟩
        have hml : m < l.length := by omega
        obtain ⟨g, off, rfl, hg, hx, hy⟩ := reads_ent hr hml
        have h00 : ((l.length : Int) == 0) = false := by rw [beq_eq_false_iff_ne]; omega
        have hfm := fits_m hml hm x y
        have hf : fits l (x, y) = (decide (l[m].1 < x) && decide (l[m].2 < y)) := by
          rw [Bool.eq_iff_iff, hfm]
          simp [h1, h2]
        rw [hf]
        have hidx : (l.length : Int) - 1 = (m : Int) := by omega
        clear hr hf hfm hm
        go_enter Try.func55, Try.ntmps55
        go_wp2_with fail
        all_goals go_ret
        all_goals exact ⟨by first | (simp [*]; done) | (simp [*]; omega), ((Turn.refl _ _).alloc _).alloc _⟩

/-- a list laid anew behind nil: what 'append(nil, l...)' leaves. -/
theorem rapp_end {w w1 : World} {A1 : Option Addr} {n c1 : Nat} (hg : w.grownBy w1 none) (hb : (Value.slice A1 n c1).ownBlock = none ∨ (Value.slice A1 n c1).ownBlock = some w.heap.size) :
    Turn [] w w1 ∧ ∀ k ∈ blockOf A1, w.heap.size ≤ k := by
  refine ⟨(Turn.refl [] w).grown hg (by simp), fun k hk => ?_⟩
  have hk' : (Value.slice A1 n c1).ownBlock = some k := by rw [ownBlock_slice]; simpa [blockOf] using hk
  rcases hb with hb | hb <;> rw [hb] at hk'
  · cases hk'
  · injection hk' with hk'; omega
set_option maxHeartbeats 1600000 in
set_option maxRecDepth 100000 in
theorem rentries {w : World} {F : List Nat} {b : Nat} {l : List En} (h : RIdx w F b l) : Calls Try.prog 38 #[.pointer (some ⟨b, 0, none⟩)] w (Fresh l w) := by
  obtain ⟨i0, hi0, hz0, hz1, hz2⟩ := info_parts info30
  obtain ⟨A, c, hc0, hr, hm, hbw⟩ := h.cell
  have HR := hide hr
  clear h hr
  go_enter Try.func38, Try.ntmps38
  go_wp2_with (at_builtin; refine wpList_append_reads _ rfl (.tmp 4) (.tmp 8) 23 rfl 0 30 i0 _ 2 16 Try.underlying23 hi0 hz0 hz1 hz2 rfl (by decide) (.slice none 0 0) 0 [] rfl (World.ownsRow_nil _ _ _ _) A l.length c (ents l) rfl HR.out (ents_oneCell _) (by unfold maxLen; omega) (by omega) (Nat.zero_le _) ?_)
  intro v1 w1 ho hg hb hn
  obtain ⟨A1, c1, rfl⟩ := own_form ho
  obtain ⟨h1, h2⟩ := rapp_end hg (by simpa [Value.ownBlock] using hb)
  go_wp2
  go_ret
  exact ⟨A1, c1, rfl, h1, by simpa using ho, h2⟩
set_option maxHeartbeats 400000 in
theorem rclone {w : World} {F : List Nat} {b : Nat} {l : List En} (h : RIdx w F b l) : Calls Try.prog 18 #[.pointer (some ⟨b, 0, none⟩)] w fun e w' => ∃ F b, e = .returned (.pointer (some ⟨b, 0, none⟩)) ∧ Turn [] w w' ∧ RIdx w' F b l ∧ ∀ k ∈ F, w.heap.size ≤ k := by
  obtain ⟨_, _, _, _, hsz, _⟩ := h.cell
  have HC := hide (rentries h)
  clear h
  go_enter Try.func18, Try.ntmps18
  go_wp2_with (go_at_call 38; refine HC.out.mono ?_; rintro e w1 ⟨A1, c1, rfl, ht, ho, hn⟩; have HO := hide ho; have HT := hide ht; have HN := hide hn; clear ho ht hn)
  go_ret
  refine ⟨w1.heap.size :: blockOf A1, w1.heap.size, rfl, HT.out.alloc _, ⟨A1, c1, rfl, Blk.new _ _ _, own_turn HO.out ((Turn.refl [] _).alloc _) (by simp), hsz⟩, ?_⟩
  intro k hk
  simp only [List.mem_cons] at hk
  rcases hk with rfl | hk
  · exact HT.out.size
  · exact HN.out k hk

def RAddIs (E : Int) (L : List En) (F : List Nat) (b : Nat) (w : World) (e : Ending) (w' : World) : Prop :=
  ∃ F', e = .returned (.int .i64 E) ∧ Turn F w w' ∧ RIdx w' F' b L ∧ ∀ k ∈ F', k ∈ F ∨ w.heap.size ≤ k
theorem hO2ne {w w1 : World} {x b : Nat} (h : w1.heap.size ≤ x) (ht : Turn [] w w1) (hb : b < w.heap.size) : x ≠ b := by have := ht.size; omega
theorem radd_end {w w2 w3 : World} {F : List Nat} {b c c3 : Nat} {A A2 A3 : Option Addr} {c2 : Nat} {l : List En} {e : En} (hbF : b ∈ F) (hbw : b < w.heap.size) (hB : Blk w2 b 71 #[.slice A l.length c]) (t : Turn [] w w2)
    (ho : w3.ownsRow 0 30 2 (.slice A3 (l.length + 1) c3) (l.length + 1) (ents l ++ ents [e])) (hsz : (l.length + 1) * 16 ≤ 140737488355328) {o : Obj} (hg : (w2.alloc o).grownBy w3 (Value.slice A2 l.length c2).ownBlock)
    (hn : ∀ x ∈ blockOf A2, w.heap.size ≤ x) (hne : ∀ x ∈ blockOf A2, x ≠ b)
    (hb : (Value.slice A3 (l.length + 1) c3).ownBlock = (Value.slice A2 l.length c2).ownBlock ∨ (Value.slice A3 (l.length + 1) c3).ownBlock = some (w2.heap.size + 1)) :
    Turn F w (w3.setCell ⟨b, 0, none⟩ (.slice A3 (l.length + 1) c3)) ∧ ∃ F', RIdx (w3.setCell ⟨b, 0, none⟩ (.slice A3 (l.length + 1) c3)) F' b (l ++ [e]) ∧ ∀ k ∈ F', k ∈ F ∨ w.heap.size ≤ k := by
  have hg2 : ∀ g, (Value.slice A2 l.length c2).ownBlock = some g → g ∈ blockOf A2 := fun g hg' => by rw [ownBlock_slice] at hg'; simp [blockOf, hg']
  have kb : Blk w3 b 71 #[.slice A l.length c] := (hB.alloc o).grown hg (fun h => hne b (hg2 b h.symm) rfl)
  have hne3 : (Value.slice A3 (l.length + 1) c3).ownBlock ≠ some b := own_blk_ne ho kb (by decide)
  have h3 : ∀ x ∈ blockOf A3, w.heap.size ≤ x := by
    intro x hx
    have hx' : (Value.slice A3 (l.length + 1) c3).ownBlock = some x := by rw [ownBlock_slice]; simpa [blockOf] using hx
    rcases hb with hb | hb
    · rw [hb] at hx'; exact hn x (hg2 x hx')
    · rw [hb] at hx'; injection hx' with hx'; have := t.size; omega
  have t3 : Turn F w w3 := ((t.mono (G := F) (by simp)).alloc o).grown hg (fun g hg' => .inr (hn g (hg2 g hg')))
  refine ⟨t3.setCell (.inl hbF) _, b :: blockOf A3, ⟨A3, c3, rfl, ?_, ?_, by simpa using hsz⟩, ?_⟩
  · simpa using kb.set_ 0 (.slice A3 (l.length + 1) c3)
  · have := own_turn ho (turn_set w3 b 0 (.slice A3 (l.length + 1) c3)) (fun g hg' => by rw [hg'] at hne3; simpa using hne3)
    simpa [ents_append] using this
  · intro k hk
    simp only [List.mem_cons] at hk
    rcases hk with rfl | hk
    · exact .inl hbF
    · exact .inr (h3 k hk)
set_option maxHeartbeats 1600000 in
set_option maxRecDepth 100000 in
theorem radd {w : World} {F : List Nat} {b : Nat} {l : List En} (h : RIdx w F b l) (k a : Int) (hsz : (l.length + 1) * 16 ≤ 140737488355328) :
    Calls Try.prog 39 #[.pointer (some ⟨b, 0, none⟩), .agg #[.int .i64 k, .int .i64 a]] w (RAddIs (addE l (k, a)) (addL l (k, a)) F b w) := by
  obtain ⟨i0, hi0, hz0, hz1, hz2⟩ := info_parts info30
  have hbF := h.mem
  have HX := hide h
  obtain ⟨A, c, hF, hB, hO, hs⟩ := h
  have HF := hide hF
  have HB := hide (fun wx (ht : Turn [] w wx) => hB.turn ht (by simp))
  have HO := hide (fun wx (ht : Turn [] w wx) => own_turn hO ht (by simp))
  have hbw := hB.lt
  have hc0 : w.cell? ⟨b, 0, none⟩ = some (.slice A l.length c) := hB.cell 0
  clear hF hB hO
  have hq := fun (wx : World) (ht : Turn [] w wx) => rfits c (Reads.of_own (HO.out wx ht)) (by omega) k a
  have HQ := hide hq
  clear hq
  by_cases hf : fits l (k, a) = true
  · obtain ⟨hE, hL⟩ := yes_EL hf
    rw [hE, hL]
    have HQ2 : Hid (∀ (wx : World), Turn [] w wx → Calls Try.prog 55 #[.slice A l.length c, .agg #[.int .i64 k, .int .i64 a]] wx (Same (.bool true) wx)) := hide (fun wx ht => hf ▸ HQ.out wx ht)
    clear hE hL HQ hf
    go_enter Try.func39, Try.ntmps39
    go_wp2_with fail
    go_region_with (go_at_call 55; refine (HQ2.out _ (by repeat first | exact Turn.refl _ _ | refine Turn.drew ?_ | refine Turn.drewN ?_ _ | refine Turn.alloc ?_ _)).mono ?_; rintro e w1 ⟨rfl, ht⟩; have hbox := (Blk.new w 30 #[.int .i64 k, .int .i64 a]).drew.turn ht (by simp); have hcx := hbox.cell; have hzx := hbox.lt; have HT1 := hide (Turn.pre (w := w) (by repeat first | exact Turn.refl _ _ | refine Turn.drew ?_ | refine Turn.drewN ?_ _ | refine Turn.alloc ?_ _) ht); have HBX := hide hbox; have hcb := (HB.out w1 HT1.out).cell 0; have hfb := (HB.out w1 HT1.out).frozen 0; clear ht hbox)
    all_goals
      go_wp2_with (at_builtin; refine wpList_append_reads _ rfl (.tmp 13) (.tmp 17) 23 rfl 0 30 i0 _ 2 16 Try.underlying23 hi0 hz0 hz1 hz2 rfl (by decide) (.slice none 0 0) 0 [] rfl (World.ownsRow_nil _ _ _ _) A l.length c (ents l) rfl (Reads.of_own (HO.out _ HT1.out)) (ents_oneCell _) (by unfold maxLen; omega) (by omega) (Nat.zero_le _) ?_)
      intro v2 w2 ho2 hg2 hb2 hn2
      obtain ⟨A2, c2, rfl⟩ := own_form ho2
      obtain ⟨h21, h22⟩ := rapp_end hg2 (by simpa [Value.ownBlock] using hb2)
      have hbox2 := (show Blk w1 w.heap.size 30 #[.int .i64 k, .int .i64 a] from HBX.out).turn h21 (by simp)
      have hcx2 := hbox2.cell
      have hzx2 := hbox2.lt
      have HT2 := hide (HT1.out.trans0 h21)
      have HN2 : Hid (∀ x ∈ blockOf A2, w1.heap.size ≤ x) := hide h22
      have HO2 := hide ho2
      have kb2 := HB.out w2 HT2.out
      have hcb2 : w2.cell? ⟨b, 0, none⟩ = some (.slice A l.length c) := kb2.cell 0
      have hfb2 := kb2.frozen 0
      have hzb2 := kb2.lt
      have HKB := hide kb2
      clear ho2 hg2 hb2 hn2 h21 h22 hbox2 kb2 hcx hzx hcb hfb
      go_wp2_with (at_builtin; refine wpList_append_reads _ rfl (.tmp 20) (.tmp 22) 23 rfl 0 30 i0 _ 2 16 Try.underlying23 hi0 hz0 hz1 hz2 rfl (by decide) (.slice A2 l.length c2) l.length (ents l) rfl (own_turn HO2.out ((Turn.refl [] _).alloc _) (by simp)) (some ⟨w2.heap.size, 0, none⟩) 1 1 (ents [(k, a)]) rfl (reads_blk (Blk.new_at rfl 30 #[.int .i64 k, .int .i64 a]) rfl) (ents_oneCell _) (by unfold maxLen; omega) (by omega) (Nat.zero_le _) ?_)
      intro v3 w3 ho3 hg3 hb3 hn3
      obtain ⟨A3, c3, rfl⟩ := own_form ho3
      obtain ⟨h31, F3, h32, h33⟩ := radd_end hbF hbw HKB.out HT2.out ho3 (by omega) hg3 (fun x hx => Nat.le_trans HT1.out.size (HN2.out x hx)) (fun x hx => by have h := hO2ne (HN2.out x hx) HT1.out hbw; exact h) (by simpa using hb3)
      have kb3 := (HKB.out.alloc (.cells #[.int .i64 k, .int .i64 a] 30)).grown hg3 (by intro h; exact absurd (HN2.out b (by rw [ownBlock_slice] at h; simp [blockOf, ← h])) (by have := HT1.out.size; omega))
      have hcb3 := kb3.cell 0
      have hfb3 := kb3.frozen 0
      clear ho3 hg3 hb3 hn3 kb3 hcx2 hzx2 hcb2 hfb2
      go_wp2
      go_ret
      exact ⟨F3, rfl, h31, h32, h33⟩
  · obtain ⟨hE, hL⟩ := no_EL hf
    rw [hE, hL]
    have hf' : fits l (k, a) = false := by simpa using hf
    have HQ2 : Hid (∀ (wx : World), Turn [] w wx → Calls Try.prog 55 #[.slice A l.length c, .agg #[.int .i64 k, .int .i64 a]] wx (Same (.bool false) wx)) := hide (fun wx ht => hf' ▸ HQ.out wx ht)
    clear hE hL HQ hf hf'
    go_enter Try.func39, Try.ntmps39
    go_wp2_with fail
    go_region_with (go_at_call 55; refine (HQ2.out _ (by repeat first | exact Turn.refl _ _ | refine Turn.drew ?_ | refine Turn.drewN ?_ _ | refine Turn.alloc ?_ _)).mono ?_; rintro e w1 ⟨rfl, ht⟩; have HT1 := hide (Turn.pre (w := w) (by repeat first | exact Turn.refl _ _ | refine Turn.drew ?_ | refine Turn.drewN ?_ _ | refine Turn.alloc ?_ _) ht); clear ht)
    all_goals
      go_wp2
      go_ret
      exact ⟨F, rfl, HT1.out.mono (by simp), HX.out.turn0 HT1.out, fun x hx => .inl hx⟩
end Go.Proofs.Ytgjpaglkcpomnaa

/- 'built', walked: the index and the list of the entries that fit. -/
import Derived.Test.YtgjpaglkcpomnaaW4x
namespace Go.Proofs.Ytgjpaglkcpomnaa
set_option linter.unusedVariables false
set_option linter.unusedSimpArgs false
open Go.RowKit K

def builtL (L : List En) : List En := L.foldl addL []
theorem builtL_snoc (L : List En) (e : En) : builtL (L ++ [e]) = addL (builtL L) e := by simp [builtL]
theorem addL_length (l : List En) (e : En) : (addL l e).length ≤ l.length + 1 := by unfold addL; split <;> simp
theorem builtL_length (L : List En) : (builtL L).length ≤ L.length := by
  have h : ∀ (L l : List En), (L.foldl addL l).length ≤ l.length + L.length := by
    intro L
    induction L with
    | nil => intro l; simp
    | cons e L ih => intro l; have := ih (addL l e); have := addL_length l e; simp; omega
  simpa [builtL] using h L []
theorem builtL_take (L : List En) (k : Nat) (h : k < L.length) : builtL (L.take (k + 1)) = addL (builtL (L.take k)) L[k] := by
  rw [List.take_succ_eq_append_getElem h, builtL_snoc]

/-- what a round of 'built' holds: the index and the list, both of the entries that fit. -/
structure BRel (w : World) (b : Nat) (A6 : Option Addr) (c6 : Nat) (F : List Nat) (l : List En) (wr : World) : Prop where
  idx : Idx wr F b l
  own : wr.ownsRow 0 30 2 (.slice A6 l.length c6) l.length (ents l)
  new : ∀ k ∈ F, w.heap.size ≤ k
  newl : ∀ k ∈ blockOf A6, w.heap.size ≤ k
  apart : ∀ k ∈ blockOf A6, k ∉ F
  turn : Turn [] w wr

theorem no_EL {l : List En} {e : En} (h : ¬ fits l e = true) : addE l e = 30 ∧ addL l e = l := by unfold addE addL; rw [if_neg h, if_neg h]; exact ⟨rfl, rfl⟩
theorem yes_EL {l : List En} {e : En} (h : fits l e = true) : addE l e = 0 ∧ addL l e = l ++ [e] := by unfold addE addL; rw [if_pos h, if_pos h]; exact ⟨rfl, rfl⟩
theorem fits_nil {x y : Int} (h1 : 0 ≤ x) (h2 : 0 ≤ y) : fits [] (x, y) = true := (fits_iff lastOf_nil).2 ⟨h1, h2, .inl rfl⟩
theorem fits_m {l : List En} {m : Nat} (hm : m < l.length) (hl : l.length = m + 1) (x y : Int) : fits l (x, y) = true ↔ 0 ≤ x ∧ 0 ≤ y ∧ l[m].1 < x ∧ l[m].2 < y := by
  have h := lastOf_pos (l := l) (by omega)
  have : l.length - 1 = m := by omega
  rw [fits_iff (p := l[m].1) (q := l[m].2) (ok := true) (by rw [h]; simp [this])]
  simp

/-- the round, the entry kept. -/
theorem BRel.keep {w wr w3 w4 : World} {b : Nat} {A6 A7 : Option Addr} {c6 c7 : Nat} {F F' : List Nat} {l : List En} {e : En} (h : BRel w b A6 c6 F l wr) (ht : Turn F wr w3) (hx : Idx w3 F' b (l ++ [e])) (hF : ∀ k ∈ F', k ∈ F ∨ wr.heap.size ≤ k)
    (hg : w3.grownBy w4 (Value.slice A6 l.length c6).ownBlock) (ho : w4.ownsRow 0 30 2 (.slice A7 (l.length + 1) c7) (l.length + 1) (ents l ++ ents [e]))
    (hb : (Value.slice A7 (l.length + 1) c7).ownBlock = (Value.slice A6 l.length c6).ownBlock ∨ (Value.slice A7 (l.length + 1) c7).ownBlock = some w3.heap.size) : BRel w b A7 c7 F' (l ++ [e]) w4 := by
  have h1 : ∀ k ∈ blockOf A7, k ∈ blockOf A6 ∨ k = w3.heap.size := by
    intro k hk
    have hk' : (Value.slice A7 (l.length + 1) c7).ownBlock = some k := by rw [ownBlock_slice]; simpa [blockOf] using hk
    rcases hb with hb | hb
    · rw [hb, ownBlock_slice] at hk'
      exact .inl (by simp [blockOf, hk'])
    · rw [hb] at hk'
      injection hk' with hk'
      exact .inr hk'.symm
  have hA6 : ∀ k ∈ blockOf A6, k < wr.heap.size := fun k hk => (h.own.lt k (by rw [ownBlock_slice]; simpa [blockOf] using hk)).2
  have hap : ∀ k ∈ blockOf A6, k ∉ F' := fun k hk hk' => by
    rcases hF k hk' with h2 | h2
    · exact h.apart k hk h2
    · have := hA6 k hk; omega
  have ht34 : Turn (blockOf A6) w3 w4 := (Turn.refl _ _).grown hg (fun g hg' => .inl (by rw [ownBlock_slice] at hg'; simp [blockOf, hg']))
  have s1 := h.turn.size
  have s2 := ht.size
  refine ⟨hx.turn ht34 (fun k hk hk' => hap k hk' hk), by simpa [ents_append] using ho, ?_, ?_, ?_, ?_⟩
  · intro k hk
    rcases hF k hk with h2 | h2
    · exact h.new k h2
    · omega
  · intro k hk
    rcases h1 k hk with h2 | h2
    · exact h.newl k h2
    · omega
  · intro k hk
    rcases h1 k hk with h2 | h2
    · exact hap k h2
    · intro hk'
      have := hx.lt k hk'
      omega
  · exact (h.turn.trans ht (fun k hk => .inr (h.new k hk))).trans ht34 (fun k hk => .inr (h.newl k hk))
/-- the round, the entry refused. -/
theorem BRel.drop {w wr w3 : World} {b : Nat} {A6 : Option Addr} {c6 : Nat} {F F' : List Nat} {l : List En} (h : BRel w b A6 c6 F l wr) (ht : Turn F wr w3) (hx : Idx w3 F' b l) (hF : ∀ k ∈ F', k ∈ F ∨ wr.heap.size ≤ k) : BRel w b A6 c6 F' l w3 := by
  have hA6 : ∀ k ∈ blockOf A6, k < wr.heap.size := fun k hk => (h.own.lt k (by rw [ownBlock_slice]; simpa [blockOf] using hk)).2
  have s1 := h.turn.size
  refine ⟨hx, own_turn h.own ht (fun g hg => h.apart g (by rw [ownBlock_slice] at hg; simp [blockOf, hg])), ?_, h.newl, ?_, h.turn.trans ht (fun k hk => .inr (h.new k hk))⟩
  · intro k hk
    rcases hF k hk with h2 | h2
    · exact h.new k h2
    · omega
  · intro k hk hk'
    rcases hF k hk' with h2 | h2
    · exact h.apart k hk h2
    · have := hA6 k hk; omega

set_option maxHeartbeats 4000000 in
set_option maxRecDepth 1000000 in
theorem built_any (w : World) (A : Option Addr) (c : Nat) (L : List En) (hr : Reads w 2 A L.length (ents L)) (hsz : L.length * 16 ≤ 140737488351232) :
    Calls Try.prog 11 #[.slice A L.length c] w fun e w' => ∃ b A6 c6 F, e = .returned (.tuple #[.pointer (some ⟨b, 0, none⟩), .slice A6 (builtL L).length c6, .bool true]) ∧ BRel w b A6 c6 F (builtL L) w' := by
  obtain ⟨i0, hi0, hz0, hz1, hz2⟩ := info_parts info30
  have HR := hide hr
  clear hr
  go_enter Try.func11, Try.ntmps11
  go_wp2_with fail
  refine (new_any _).mono ?_
  rintro e w1 ⟨b, rfl, hb, ht1, hx1⟩
  have HB1 : Hid (BRel w b none 0 [b] [] w1) := hide ⟨hx1, World.ownsRow_nil _ _ _ _, by simpa using hb, by simp [blockOf], by simp [blockOf], ht1⟩
  clear hx1 ht1
  go_wp2_with fail
  go_loopw [6, 7] (fun v i wr => ∃ (k : Nat) (A6 : Option Addr) (c6 : Nat) (F : List Nat), k ≤ L.length ∧ i = .int .i64 k ∧ v = .slice A6 (builtL (L.take k)).length c6 ∧ BRel w b A6 c6 F (builtL (L.take k)) wr) (fun _ i _ => L.length - (intOf i).toNat)
  case atStart => exact ⟨0, none, 0, [b], Nat.zero_le _, rfl, rfl, HB1.out⟩
  case round =>
    obtain ⟨k, A6, c6, F, hk, rfl, rfl, hB⟩ := hrel
    by_cases hlt : k < L.length
    · have hne := builtL_take L k hlt
      have hle := builtL_length (L.take k)
      have hBr := HR.out.turn0 hB.turn
      obtain ⟨g, off, rfl, hg, hx, hy⟩ := reads_ent hBr hlt
      have HN := hide hne
      have hlen : (builtL (L.take k)).length ≤ k := by simp at hle; omega
      clear hne hle hBr
      obtain ⟨⟨x, y⟩, he⟩ : ∃ e, e = L[k] := ⟨_, rfl⟩
      rw [← he] at hx hy
      have HE := hide he
      clear he
      obtain ⟨l, hl⟩ : ∃ l, l = builtL (L.take k) := ⟨_, rfl⟩
      rw [← hl] at hB hlen ⊢
      have HL := hide hl
      clear hl
      have HB := hide hB
      clear hB
      have hIW := hide (fun wx (ht : Turn [] wr wx) => HB.out.idx.turn0 ht)
      have hsz1 : (l.length + 1) * 16 ≤ 140737488355328 := by omega
      rcases Int.lt_or_le x 0 with h1 | h1
      · have HFit : Hid (¬ fits l (x, y) = true) := hide (fun hc => by have := ((fits_iff (l := l) rfl).1 hc).1; omega)
        have hd : decide (0 ≤ x) = false := by simp; omega
        go_wp2_with fail
        go_quiet (fail)
        go_wp2_with fail
        refine (add_is (hIW.out _ (by repeat first | exact Turn.refl _ _ | refine Turn.drew ?_ | refine Turn.drewN ?_ _ | refine Turn.alloc ?_ _)) x y hsz1 (no_EL HFit.out).1 (no_EL HFit.out).2).mono ?_
        rintro e w3 ⟨F3, rfl, ht3, hx3, hF3⟩
        have hB3 := hide (HB.out.drop (Turn.pre (w := wr) (by repeat first | exact Turn.refl _ _ | refine Turn.drew ?_ | refine Turn.drewN ?_ _ | refine Turn.alloc ?_ _) ht3) hx3 (fun k hk => (hF3 k hk).imp id (fun h => by simp at h; omega)))
        clear ht3 hx3 hF3
        go_wp2_with fail
        go_roundw
        case rel => exact ⟨k + 1, _, c6, F3, by omega, by go_num, by rw [HN.out, ← HL.out, ← HE.out, (no_EL HFit.out).2], by rw [HN.out, ← HL.out, ← HE.out, (no_EL HFit.out).2]; exact hB3.out⟩
        case measure => simp [intOf]; omega
      · rcases Int.lt_or_le y 0 with h2 | h2
        · have HFit : Hid (¬ fits l (x, y) = true) := hide (fun hc => by have := ((fits_iff (l := l) rfl).1 hc).2.1; omega)
          have hd : decide (0 ≤ y) = false := by simp; omega
          go_wp2_with fail
          go_quiet (fail)
          go_wp2_with fail
          refine (add_is (hIW.out _ (by repeat first | exact Turn.refl _ _ | refine Turn.drew ?_ | refine Turn.drewN ?_ _ | refine Turn.alloc ?_ _)) x y hsz1 (no_EL HFit.out).1 (no_EL HFit.out).2).mono ?_
          rintro e w3 ⟨F3, rfl, ht3, hx3, hF3⟩
          have hB3 := hide (HB.out.drop (Turn.pre (w := wr) (by repeat first | exact Turn.refl _ _ | refine Turn.drew ?_ | refine Turn.drewN ?_ _ | refine Turn.alloc ?_ _) ht3) hx3 (fun k hk => (hF3 k hk).imp id (fun h => by simp at h; omega)))
          clear ht3 hx3 hF3
          go_wp2_with fail
          go_roundw
          case rel => exact ⟨k + 1, _, c6, F3, by omega, by go_num, by rw [HN.out, ← HL.out, ← HE.out, (no_EL HFit.out).2], by rw [HN.out, ← HL.out, ← HE.out, (no_EL HFit.out).2]; exact hB3.out⟩
          case measure => simp [intOf]; omega
        · rcases Nat.eq_zero_or_pos l.length with h0 | h0
          · have HFit : Hid (fits l (x, y) = true) := hide (by rw [List.eq_nil_of_length_eq_zero h0]; exact fits_nil h1 h2)
            have h00 : ((l.length : Int) == 0) = true := by rw [h0]; rfl
            clear h0
            go_wp2_with fail
            go_quiet (fail)
            go_wp2_with fail
            refine (add_is (hIW.out _ (by repeat first | exact Turn.refl _ _ | refine Turn.drew ?_ | refine Turn.drewN ?_ _ | refine Turn.alloc ?_ _)) x y hsz1 (yes_EL HFit.out).1 (yes_EL HFit.out).2).mono ?_
            rintro e w3 ⟨F3, rfl, ht3, hx3, hF3⟩
            have hBx := Blk.turn (g := wr.heap.size) (by repeat first | exact Blk.new _ _ _ | refine Blk.drewN ?_ _) ht3 (fun hk => by have := HB.out.idx.lt _ hk; omega)
            have hc8 := hBx.cell
            have hz8 := hBx.lt
            have HT := hide (Turn.pre (w := wr) (by repeat first | exact Turn.refl _ _ | refine Turn.drew ?_ | refine Turn.drewN ?_ _ | refine Turn.alloc ?_ _) ht3)
            have HX := hide hx3
            have HF3 : Hid (∀ k ∈ F3, k ∈ F ∨ wr.heap.size ≤ k) := hide (fun k hk => (hF3 k hk).imp id (fun h => by simp at h; omega))
            have hO3 := hide (own_turn HB.out.own HT.out (fun g hg => HB.out.apart g (by rw [ownBlock_slice] at hg; simp [blockOf, hg])))
            clear ht3 hx3 hF3
            go_wp2_with (at_builtin; (refine wpList_append_reads _ rfl (.tmp 75) (.tmp 77) 23 rfl 0 30 i0 _ 2 16 Try.underlying23 hi0 hz0 hz1 hz2 rfl (by decide) (.slice _ l.length c6) l.length (ents l) rfl (own_turn hO3.out ((Turn.refl [] _).alloc _) (by simp)) (some ⟨w3.heap.size, 0, none⟩) 1 1 (ents [(x, y)]) rfl (reads_blk (Blk.new_at rfl 30 #[.int .i64 x, .int .i64 y]) rfl) (ents_oneCell _) (by unfold maxLen; omega) (by omega) (Nat.zero_le _) ?_))
            intro v7 w4 ho7 hg7 hb7 hn7
            obtain ⟨A7, c7, rfl⟩ := own_form ho7
            have hB4 := hide (HB.out.keep (HT.out.alloc _) (HX.out.turn0 ((Turn.refl _ _).alloc _)) HF3.out hg7 ho7 (by simpa using hb7))
            clear ho7 hg7 hb7 hn7
            go_wp2_with fail
            go_roundw
            case rel => exact ⟨k + 1, A7, c7, F3, by omega, by go_num, by rw [HN.out, ← HL.out, ← HE.out, (yes_EL HFit.out).2]; simp, by rw [HN.out, ← HL.out, ← HE.out, (yes_EL HFit.out).2]; exact hB4.out⟩
            case measure => simp [intOf]; omega
          · obtain ⟨m, hm⟩ : ∃ m, l.length = m + 1 := ⟨l.length - 1, by omega⟩
            have hml : m < l.length := by omega
            obtain ⟨g6, off6, hA6, hg6, hx6, hy6⟩ := reads_ent (Reads.of_own HB.out.own) hml
            subst hA6
            have h00 : ((l.length : Int) == 0) = false := by rw [beq_eq_false_iff_ne]; omega
            have hw1 : IntKind.i64.wrap ((l.length : Int) - 1) = (m : Int) := by rw [IntKind.wrap_i64]; omega
            have hfm := fits_m hml hm x y
            have HM := hide hm
            clear hm
            rcases Int.lt_or_le l[m].1 x with h3 | h3
            · rcases Int.lt_or_le l[m].2 y with h4 | h4
              · have HFit : Hid (fits l (x, y) = true) := hide (hfm.2 ⟨h1, h2, h3, h4⟩)
                clear hfm
                go_wp2_with fail
                go_quiet (fail)
                go_wp2_with fail
                refine (add_is (hIW.out _ (by repeat first | exact Turn.refl _ _ | refine Turn.drew ?_ | refine Turn.drewN ?_ _ | refine Turn.alloc ?_ _)) x y hsz1 (yes_EL HFit.out).1 (yes_EL HFit.out).2).mono ?_
                rintro e w3 ⟨F3, rfl, ht3, hx3, hF3⟩
                have hBx := Blk.turn (g := wr.heap.size) (by repeat first | exact Blk.new _ _ _ | refine Blk.drewN ?_ _) ht3 (fun hk => by have := HB.out.idx.lt _ hk; omega)
                have hc8 := hBx.cell
                have hz8 := hBx.lt
                have HT := hide (Turn.pre (w := wr) (by repeat first | exact Turn.refl _ _ | refine Turn.drew ?_ | refine Turn.drewN ?_ _ | refine Turn.alloc ?_ _) ht3)
                have HX := hide hx3
                have HF3 : Hid (∀ k ∈ F3, k ∈ F ∨ wr.heap.size ≤ k) := hide (fun k hk => (hF3 k hk).imp id (fun h => by simp at h; omega))
                have hO3 := hide (own_turn HB.out.own HT.out (fun g hg => HB.out.apart g (by rw [ownBlock_slice] at hg; simp [blockOf, hg])))
                clear ht3 hx3 hF3
                go_wp2_with (at_builtin; (refine wpList_append_reads _ rfl (.tmp 75) (.tmp 77) 23 rfl 0 30 i0 _ 2 16 Try.underlying23 hi0 hz0 hz1 hz2 rfl (by decide) (.slice _ l.length c6) l.length (ents l) rfl (own_turn hO3.out ((Turn.refl [] _).alloc _) (by simp)) (some ⟨w3.heap.size, 0, none⟩) 1 1 (ents [(x, y)]) rfl (reads_blk (Blk.new_at rfl 30 #[.int .i64 x, .int .i64 y]) rfl) (ents_oneCell _) (by unfold maxLen; omega) (by omega) (Nat.zero_le _) ?_))
                intro v7 w4 ho7 hg7 hb7 hn7
                obtain ⟨A7, c7, rfl⟩ := own_form ho7
                have hB4 := hide (HB.out.keep (HT.out.alloc _) (HX.out.turn0 ((Turn.refl _ _).alloc _)) HF3.out hg7 ho7 (by simpa using hb7))
                clear ho7 hg7 hb7 hn7
                go_wp2_with fail
                go_roundw
                case rel => exact ⟨k + 1, A7, c7, F3, by omega, by go_num, by rw [HN.out, ← HL.out, ← HE.out, (yes_EL HFit.out).2]; simp, by rw [HN.out, ← HL.out, ← HE.out, (yes_EL HFit.out).2]; exact hB4.out⟩
                case measure => simp [intOf]; omega
              · have HFit : Hid (¬ fits l (x, y) = true) := hide (fun hc => by have := hfm.1 hc; omega)
                have hd : decide (l[m].2 < y) = false := by simp; omega
                clear hfm
                go_wp2_with fail
                go_quiet (fail)
                go_wp2_with fail
                refine (add_is (hIW.out _ (by repeat first | exact Turn.refl _ _ | refine Turn.drew ?_ | refine Turn.drewN ?_ _ | refine Turn.alloc ?_ _)) x y hsz1 (no_EL HFit.out).1 (no_EL HFit.out).2).mono ?_
                rintro e w3 ⟨F3, rfl, ht3, hx3, hF3⟩
                have hB3 := hide (HB.out.drop (Turn.pre (w := wr) (by repeat first | exact Turn.refl _ _ | refine Turn.drew ?_ | refine Turn.drewN ?_ _ | refine Turn.alloc ?_ _) ht3) hx3 (fun k hk => (hF3 k hk).imp id (fun h => by simp at h; omega)))
                clear ht3 hx3 hF3
                go_wp2_with fail
                go_roundw
                case rel => exact ⟨k + 1, _, c6, F3, by omega, by go_num, by rw [HN.out, ← HL.out, ← HE.out, (no_EL HFit.out).2], by rw [HN.out, ← HL.out, ← HE.out, (no_EL HFit.out).2]; exact hB3.out⟩
                case measure => simp [intOf]; omega
            · have HFit : Hid (¬ fits l (x, y) = true) := hide (fun hc => by have := hfm.1 hc; omega)
              have hd : decide (l[m].1 < x) = false := by simp; omega
              clear hfm
              go_wp2_with fail
              go_quiet (fail)
              go_wp2_with fail
              refine (add_is (hIW.out _ (by repeat first | exact Turn.refl _ _ | refine Turn.drew ?_ | refine Turn.drewN ?_ _ | refine Turn.alloc ?_ _)) x y hsz1 (no_EL HFit.out).1 (no_EL HFit.out).2).mono ?_
              rintro e w3 ⟨F3, rfl, ht3, hx3, hF3⟩
              have hB3 := hide (HB.out.drop (Turn.pre (w := wr) (by repeat first | exact Turn.refl _ _ | refine Turn.drew ?_ | refine Turn.drewN ?_ _ | refine Turn.alloc ?_ _) ht3) hx3 (fun k hk => (hF3 k hk).imp id (fun h => by simp at h; omega)))
              clear ht3 hx3 hF3
              go_wp2_with fail
              go_roundw
              case rel => exact ⟨k + 1, _, c6, F3, by omega, by go_num, by rw [HN.out, ← HL.out, ← HE.out, (no_EL HFit.out).2], by rw [HN.out, ← HL.out, ← HE.out, (no_EL HFit.out).2]; exact hB3.out⟩
              case measure => simp [intOf]; omega
    · obtain rfl : k = L.length := by omega
      go_wp2_with fail
      go_ret3
      exact ⟨b, A6, c6, F, by simp, by simpa using hB⟩
end Go.Proofs.Ytgjpaglkcpomnaa

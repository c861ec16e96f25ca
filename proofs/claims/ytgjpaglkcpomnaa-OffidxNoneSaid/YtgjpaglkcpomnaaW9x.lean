/- Load, walked. -/
import Derived.Test.YtgjpaglkcpomnaaW8x
namespace Go.Proofs.Ytgjpaglkcpomnaa
set_option linter.unusedVariables false
set_option linter.unusedSimpArgs false
open Go.RowKit K

def allFit : List En → List En → Bool
  | _, [] => true
  | l, e :: L => fits l e && allFit (l ++ [e]) L
def LoadYes (L : List En) (w : World) (e : Ending) (w' : World) : Prop := ∃ F b, e = .returned (.tuple #[.pointer (some ⟨b, 0, none⟩), .int .i64 0]) ∧ Turn [] w w' ∧ Idx w' F b L ∧ ∀ k ∈ F, w.heap.size ≤ k
def LoadNo (E : Int) (w : World) (e : Ending) (w' : World) : Prop := e = .returned (.tuple #[.pointer none, .int .i64 E]) ∧ Turn [] w w'

set_option maxHeartbeats 1600000 in
set_option maxRecDepth 100000 in
theorem load_bad (w : World) (s : ByteArray) (hs : s.size ≤ 140737488351232) (h : s.size % 16 ≠ 0) : Calls Try.prog 28 #[.string s] w (LoadNo 29 w) := by
  have HC := hide (read_no w s hs h)
  go_enter Try.func28, Try.ntmps28
  go_wp2_with fail
  refine HC.out.mono ?_
  rintro e w1 ⟨A, c, rfl, ht, ho, hn⟩
  clear ho hn
  go_wp2_with fail
  go_ret2
  exact ⟨rfl, ht⟩

theorem allFit_step {L : List En} {k : Nat} (h : k < L.length) : allFit (L.take k) (L.drop k) = (fits (L.take k) L[k] && allFit (L.take (k + 1)) (L.drop (k + 1))) := by
  rw [List.drop_eq_getElem_cons h, allFit, List.take_succ_eq_append_getElem h]

def LoadIs (L : List En) (w : World) (e : Ending) (w' : World) : Prop := if allFit [] L = true then LoadYes L w e w' else LoadNo 30 w e w'

set_option maxHeartbeats 4000000 in
set_option maxRecDepth 100000 in
theorem load_good (w : World) (s : ByteArray) (n : Nat) (hn : s.size = 16 * n) (hs : s.size ≤ 140737488351232) : Calls Try.prog 28 #[.string s] w (LoadIs (readL n s.data.toList) w) := by
  have HC := hide (read_yes w s n hn hs)
  have hl0 := readL_length n s.data.toList
  obtain ⟨L, hL⟩ : ∃ L, L = readL n s.data.toList := ⟨_, rfl⟩
  rw [← hL] at HC hl0 ⊢
  have hLs : L.length * 16 ≤ 140737488351232 := by omega
  clear hL hl0 hn
  go_enter Try.func28, Try.ntmps28
  go_wp2_with fail
  refine HC.out.mono ?_
  rintro e w1 ⟨A, c, rfl, ht, ho, hna⟩
  have HO := hide (Reads.of_own ho)
  have HT0 := hide ht
  have HA : Hid (∀ x ∈ blockOf A, x < w1.heap.size) := hide (fun x hx => (ho.lt x (by rw [ownBlock_slice]; simpa [blockOf] using hx)).2)
  clear ht ho hna HC
  go_wp2_with fail
  refine (new_any _).mono ?_
  rintro e w2 ⟨b, rfl, hb, ht2, hx⟩
  have HT2 := hide ht2
  have HX := hide hx
  have HNEW : Hid (∀ x ∈ [b], w1.heap.size ≤ x) := hide (by simpa using hb)
  clear ht2 hx hb
  go_wp2_with fail
  go_loopw [21] (fun i wr => ∃ (k : Nat) (F : List Nat), k ≤ L.length ∧ i = .int .i64 k ∧ Idx wr F b (L.take k) ∧ Turn [] w1 wr ∧ (∀ x ∈ F, w1.heap.size ≤ x) ∧ allFit [] L = allFit (L.take k) (L.drop k)) (fun i _ => L.length - (intOf i).toNat)
  case atStart => exact ⟨0, [b], Nat.zero_le _, rfl, HX.out, HT2.out, HNEW.out, rfl⟩
  case round =>
    obtain ⟨k, F, hk, rfl, hx, ht, hF, hall⟩ := hrel
    by_cases hlt : k < L.length
    · obtain ⟨g, off, rfl, hg, hcx, hcy⟩ := reads_ent (HO.out.turn0 ht) hlt
      have hlen : (L.take k).length = k := by rw [List.length_take]; omega
      have HS := hide (List.take_succ_eq_append_getElem hlt)
      rw [allFit_step hlt] at hall
      have hsz1 : ((L.take k).length + 1) * 16 ≤ 140737488355328 := by omega
      obtain ⟨⟨x, y⟩, hxy⟩ : ∃ e, e = L[k] := ⟨_, rfl⟩
      rw [← hxy] at hcx hcy HS hall
      have HX := hide hx
      have HT := hide ht
      have HF := hide hF
      have HALL := hide hall
      clear hx ht hF hall hxy hlen
      by_cases hfit : fits (L.take k) (x, y) = true
      · have HFit := hide hfit
        clear hfit
        go_wp2_with fail
        refine (add_is (HX.out.turn0 ((Turn.refl _ _).alloc _)) x y hsz1 (yes_EL HFit.out).1 (yes_EL HFit.out).2).mono ?_
        rintro e w3 ⟨F3, rfl, ht3, hx3, hF3⟩
        have HX3 := hide hx3
        have HT3 := hide (HT.out.trans (Turn.pre (w := wr) ((Turn.refl [] wr).alloc _) ht3) (fun x hx => .inr (HF.out x hx)))
        have HF3 : Hid (∀ x ∈ F3, w1.heap.size ≤ x) := hide (fun z hz => by
          rcases hF3 z hz with h | h
          · exact HF.out z h
          · have := HT.out.size; simp at h; omega)
        clear hx3 ht3 hF3
        go_wp2_with fail
        exact ⟨⟨k + 1, F3, by omega, by go_num, by rw [HS.out]; exact HX3.out, HT3.out, HF3.out, by rw [HALL.out, HFit.out]; rfl⟩, by simp [intOf]; omega⟩
      · have HFit := hide hfit
        clear hfit
        go_wp2_with fail
        refine (add_is (HX.out.turn0 ((Turn.refl _ _).alloc _)) x y hsz1 (no_EL HFit.out).1 (no_EL HFit.out).2).mono ?_
        rintro e w3 ⟨F3, rfl, ht3, hx3, hF3⟩
        have HT3 := hide (HT.out.trans (Turn.pre (w := wr) ((Turn.refl [] wr).alloc _) ht3) (fun x hx => .inr (HF.out x hx)))
        clear hx3 ht3 hF3
        have HNo : Hid (¬ allFit [] L = true) := hide (by rw [HALL.out]; simp [HFit.out])
        go_wp2_with fail
        go_ret2
        unfold LoadIs
        rw [if_neg HNo.out]
        exact ⟨rfl, HT0.out.trans0 HT3.out⟩
    · obtain rfl : k = L.length := by omega
      rw [List.take_length, List.drop_length] at *
      have HX := hide hx
      have HT := hide ht
      have HF := hide hF
      have HALL : Hid (allFit [] L = true) := hide (by rw [hall]; rfl)
      clear hx ht hF hall
      go_wp2_with fail
      go_ret2
      unfold LoadIs
      rw [if_pos HALL.out]
      exact ⟨F, b, rfl, HT0.out.trans0 HT.out, HX.out, fun z hz => Nat.le_trans HT0.out.size (HF.out z hz)⟩
end Go.Proofs.Ytgjpaglkcpomnaa

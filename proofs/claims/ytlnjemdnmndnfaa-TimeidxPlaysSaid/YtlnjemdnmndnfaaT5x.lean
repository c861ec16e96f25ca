/- An entry's bytes; the chapter's own example: the first lines of each law. -/
import Derived.Test.YtlnjemdnmndnfaaT4x
import Derived.Test.YtlnjemdnmndnfaaWirePlain
import Derived.Test.YtlnjemdnmndnfaaRead2
namespace Go.Proofs.Ytlnjemdnmndnfaa
set_option linter.unusedVariables false
set_option linter.unusedSimpArgs false
open Go.RowKit K

def formB (e : En) : List UInt8 := Wire.be8 e.1 ++ Wire.be8 e.2
theorem formB_length (e : En) : (formB e).length = 16 := by simp [formB, Wire.be8_length]
def Str (bs : List UInt8) (w : World) (e : Ending) (w' : World) : Prop := e = .returned (.string (strOf bs)) ∧ Turn [] w w'
set_option maxHeartbeats 1600000 in
theorem form_any (w : World) (x y : Int) : Calls Try.prog 26 #[.agg #[.int .i64 x, .int .i64 y]] w (Str (formB (x, y)) w) := by
  go_enter Try.func26, Try.ntmps26
  go_wp2_with fail
  refine (Wire.newWriter _).mono ?_
  rintro e w1 ⟨F, b, rfl, ht1, hw1, hn1⟩
  have HB1 := hide (Blk.turn (Blk.new w 29 #[.int .i64 x, .int .i64 y]) ht1 (by simp))
  have hc1 := HB1.out.cell 0
  have hz1 := HB1.out.lt
  have hsz1 := ht1.size
  have HT1 := hide (Turn.pre (w := w) (by repeat first | exact Turn.refl _ _ | exact (show Hid (Turn [] _ _) by assumption).out | refine Turn.drew ?_ | refine Turn.drewN ?_ _ | refine Turn.alloc ?_ _) ht1)
  have HW1 := hide hw1
  have HN1 : Hid (∀ k ∈ F, w.heap.size < k) := hide (fun k hk => by have := hn1 k hk; simp at this; omega)
  clear ht1 hw1 hn1 hsz1
  go_wp2_with fail
  refine (Wire.i64_at HW1.out x (by simp)).mono ?_
  rintro e w2 ⟨F2, rfl, ht2, hw2, hn2⟩
  have HB2 := hide (HB1.out.turn ht2 (fun hm => by have := HN1.out _ hm; omega))
  have hc2 := HB2.out.cell 1
  have hz2 := HB2.out.lt
  have HT2 := hide (HT1.out.trans ht2 (fun k hk => .inr (Nat.le_of_lt (HN1.out k hk))))
  have HW2 := hide hw2
  have HN2 : Hid (∀ k ∈ F2, w.heap.size < k) := hide (fun k hk => by
    rcases hn2 k hk with h | h
    · exact HN1.out k h
    · omega)
  clear ht2 hw2 hn2 hc1 hz1
  go_wp2_with fail
  refine (Wire.i64_at HW2.out y (by simp [Wire.be8_length])).mono ?_
  rintro e w3 ⟨F3, rfl, ht3, hw3, hn3⟩
  have HT3 := hide (HT2.out.trans ht3 (fun k hk => .inr (Nat.le_of_lt (HN2.out k hk))))
  have HW3 := hide hw3
  clear ht3 hw3 hn3 hc2 hz2
  go_wp2_with fail
  refine (Wire.bytes_at HW3.out).mono ?_
  rintro e w4 ⟨rfl, rfl⟩
  go_wp2_with fail
  go_ret
  exact ⟨by simp [formB], HT3.out⟩

def L1 : List En := [(5, 10)]
def L2 : List En := [(5, 10), (5, 11)]
def L3 : List En := [(5, 10), (5, 11), (7, 20)]
theorem mono3 : Mono L3 := by
  intro i j hj hij
  have : j < 3 := hj
  rcases (show (i = 0 ∧ j = 1) ∨ (i = 0 ∧ j = 2) ∨ (i = 1 ∧ j = 2) by omega) with ⟨rfl, rfl⟩ | ⟨rfl, rfl⟩ | ⟨rfl, rfl⟩ <;> simp [L3]
set_option maxHeartbeats 3200000 in
set_option maxRecDepth 100000 in
theorem finds_any (w : World) : Calls Try.prog 9 #[] w (Same (.bool true) w) := by
  have e1 : appE [] (5, 10) = 0 ∧ appL [] (5, 10) = L1 := by decide
  have e2 : appE L1 (5, 11) = 0 ∧ appL L1 (5, 11) = L2 := by decide
  have e3 : appE L2 (7, 20) = 0 ∧ appL L2 (7, 20) = L3 := by decide
  have e4 : appE L3 (6, 30) = 30 ∧ appL L3 (6, 30) = L3 := by decide
  have A1 := hide (fun wx (F : List Nat) (b : Nat) (h : Ix 45 wx F b []) => e1.1 ▸ e1.2 ▸ app_at h 5 10 (by decide))
  have A2 := hide (fun wx (F : List Nat) (b : Nat) (h : Ix 45 wx F b L1) => e2.1 ▸ e2.2 ▸ app_at h 5 11 (by decide))
  have A3 := hide (fun wx (F : List Nat) (b : Nat) (h : Ix 45 wx F b L2) => e3.1 ▸ e3.2 ▸ app_at h 7 20 (by decide))
  have A4 := hide (fun wx (F : List Nat) (b : Nat) (h : Ix 45 wx F b L3) => e4.1 ▸ e4.2 ▸ app_at h 6 30 (by decide))
  have f7 : findOf L3 7 = ((5, 11), true) := by decide
  have k7 : looksOf L3 7 = 2 := by decide
  have f5 : findOf L3 5 = ((0, 0), false) := by decide
  have HF7 : Hid (∀ wx (F : List Nat) (b : Nat), Ix 45 wx F b L3 → Calls Try.prog 15 #[.pointer (some ⟨b, 0, none⟩), .int .i64 7] wx fun e w' => e = .returned (.tuple #[.agg #[.int .i64 5, .int .i64 11], .int .i64 2, .bool true]) ∧ Turn [] wx w') := hide (fun wx F b h => (find_at h mono3 7).mono fun e w' h => by unfold Finds at h; rw [f7, k7] at h; exact ⟨h.1, h.2.1⟩)
  have HF5 : Hid (∀ wx (F : List Nat) (b : Nat), Ix 45 wx F b L3 → Calls Try.prog 15 #[.pointer (some ⟨b, 0, none⟩), .int .i64 5] wx fun e w' => e = .returned (.tuple #[.agg #[.int .i64 0, .int .i64 0], .int .i64 (looksOf L3 5), .bool false]) ∧ Turn [] wx w') := hide (fun wx F b h => (find_at h mono3 5).mono fun e w' h => by unfold Finds at h; rw [f5] at h; exact ⟨h.1, h.2.1⟩)
  have hfm : strOf (formB (-1, 2)) = ⟨#[255, 255, 255, 255, 255, 255, 255, 255, 0, 0, 0, 0, 0, 0, 0, 2]⟩ := by decide +kernel
  have HFm : Hid (∀ wx, Calls Try.prog 26 #[.agg #[.int .i64 (-1), .int .i64 2]] wx (Same (.string ⟨#[255, 255, 255, 255, 255, 255, 255, 255, 0, 0, 0, 0, 0, 0, 0, 2]⟩) wx)) := hide (fun wx => (form_any wx (-1) 2).mono fun e w' h => by unfold Str at h; rw [hfm] at h; exact h)
  clear e1 e2 e3 e4 f7 k7 f5 hfm
  go_enter Try.func9, Try.ntmps9
  go_wp2_with fail
  refine (new_any _).mono ?_
  rintro e w1 ⟨b, rfl, hb, ht1, hx1⟩
  have HT1 := hide ht1
  have HX1 := hide hx1
  have HN1 : Hid (∀ k ∈ [b], w.heap.size ≤ k) := hide (by simpa using hb)
  clear ht1 hx1 hb
  go_wp2_with fail
  refine (A1.out _ _ _ HX1.out).mono ?_
  rintro e w2 ⟨F2, rfl, ht, hx, hn⟩
  have HT2 := hide (HT1.out.trans ht (fun k hk => .inr (HN1.out k hk)))
  have HX2 := hide hx
  have HN2 : Hid (∀ k ∈ F2, w.heap.size ≤ k) := hide (fun k hk => by
    rcases hn k hk with h | h
    · exact HN1.out k h
    · have := HT1.out.size; omega)
  clear ht hx hn
  go_wp2_with fail
  refine (A2.out _ _ _ HX2.out).mono ?_
  rintro e w3 ⟨F3, rfl, ht, hx, hn⟩
  have HT3 := hide (HT2.out.trans ht (fun k hk => .inr (HN2.out k hk)))
  have HX3 := hide hx
  have HN3 : Hid (∀ k ∈ F3, w.heap.size ≤ k) := hide (fun k hk => by
    rcases hn k hk with h | h
    · exact HN2.out k h
    · have := HT2.out.size; omega)
  clear ht hx hn
  go_wp2_with fail
  refine (A3.out _ _ _ HX3.out).mono ?_
  rintro e w4 ⟨F4, rfl, ht, hx, hn⟩
  have HT4 := hide (HT3.out.trans ht (fun k hk => .inr (HN3.out k hk)))
  have HX4 := hide hx
  have HN4 : Hid (∀ k ∈ F4, w.heap.size ≤ k) := hide (fun k hk => by
    rcases hn k hk with h | h
    · exact HN3.out k h
    · have := HT3.out.size; omega)
  clear ht hx hn
  go_wp2_with fail
  refine (A4.out _ _ _ HX4.out).mono ?_
  rintro e w5 ⟨F5, rfl, ht, hx, hn⟩
  have HT5 := hide (HT4.out.trans ht (fun k hk => .inr (HN4.out k hk)))
  have HX5 := hide hx
  have HN5 : Hid (∀ k ∈ F5, w.heap.size ≤ k) := hide (fun k hk => by
    rcases hn k hk with h | h
    · exact HN4.out k h
    · have := HT4.out.size; omega)
  clear ht hx hn
  go_wp2_with fail
  refine (HF7.out _ _ _ HX5.out).mono ?_
  rintro e w6 ⟨rfl, ht6⟩
  have HT6 := hide (HT5.out.trans0 ht6)
  have HX6 := hide (HX5.out.turn0 ht6)
  clear ht6
  go_wp2_with fail
  refine (HF5.out _ _ _ (HX6.out.turn0 ((Turn.refl [] _).alloc _))).mono ?_
  rintro e w7 ⟨rfl, ht7⟩
  have HB7 := hide (Blk.turn (Blk.new w6 29 #[.int .i64 5, .int .i64 11]) ht7 (by simp))
  have hc7a := HB7.out.cell 0
  have hc7b := HB7.out.cell 1
  have hz7 := HB7.out.lt
  have HT7 := hide (Turn.pre (w := w) (by repeat first | exact Turn.refl _ _ | exact (show Hid (Turn [] _ _) by assumption).out | refine Turn.drew ?_ | refine Turn.drewN ?_ _ | refine Turn.alloc ?_ _) ht7)
  clear ht7
  go_wp2_with fail
  refine (HFm.out _).mono ?_
  rintro e w8 ⟨rfl, ht8⟩
  have HT8 := hide (Turn.pre (w := w) (by repeat first | exact Turn.refl _ _ | exact (show Hid (Turn [] _ _) by assumption).out | refine Turn.drew ?_ | refine Turn.drewN ?_ _ | refine Turn.alloc ?_ _) ht8)
  clear ht8
  go_wp2_with fail
  go_ret
  exact ⟨rfl, HT8.out⟩
end Go.Proofs.Ytlnjemdnmndnfaa

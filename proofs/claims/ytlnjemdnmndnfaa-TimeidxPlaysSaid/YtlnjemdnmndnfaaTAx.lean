/- The program's index and the document's agree, walked. -/
import Derived.Test.YtlnjemdnmndnfaaT9x
namespace Go.Proofs.Ytlnjemdnmndnfaa
set_option linter.unusedVariables false
set_option linter.unusedSimpArgs false
open Go.RowKit K

set_option maxHeartbeats 8000000 in
set_option maxRecDepth 100000 in
theorem agree_any {w : World} {F G : List Nat} {b d : Nat} {l : List En} (hx : Ix 45 w F b l) (hy : Ix 34 w G d l) : Calls Try.prog 18 #[.pointer (some ⟨b, 0, none⟩), .pointer (some ⟨d, 0, none⟩)] w (Same (.bool true) w) := by
  have hsz := hx.size
  have HX := hide (fun wx (ht : Turn [] w wx) => hx.turn0 ht)
  have HY := hide (fun wx (ht : Turn [] w wx) => hy.turn0 ht)
  clear hx hy
  go_enter Try.func18, Try.ntmps18
  go_wp2_with fail
  refine (len_at (HX.out _ (by repeat first | exact Turn.refl _ _ | exact (show Hid (Turn [] _ _) by assumption).out | refine Turn.drew ?_ | refine Turn.drewN ?_ _ | refine Turn.alloc ?_ _))).mono ?_
  rintro e w' ⟨rfl, rfl⟩
  go_wp2_with fail
  refine (rlen (HY.out _ (by repeat first | exact Turn.refl _ _ | exact (show Hid (Turn [] _ _) by assumption).out | refine Turn.drew ?_ | refine Turn.drewN ?_ _ | refine Turn.alloc ?_ _))).mono ?_
  rintro e w' ⟨rfl, rfl⟩
  go_wp2_with fail
  refine (bytes_at (HX.out _ (by repeat first | exact Turn.refl _ _ | exact (show Hid (Turn [] _ _) by assumption).out | refine Turn.drew ?_ | refine Turn.drewN ?_ _ | refine Turn.alloc ?_ _))).mono ?_
  rintro e w1 ⟨rfl, ht1⟩
  have HT1 := hide ht1
  clear ht1
  go_wp2_with fail
  refine (rbytes (HY.out _ (by repeat first | exact Turn.refl _ _ | exact (show Hid (Turn [] _ _) by assumption).out | refine Turn.drew ?_ | refine Turn.drewN ?_ _ | refine Turn.alloc ?_ _))).mono ?_
  rintro e w2 ⟨rfl, ht2⟩
  have HT2 := hide (HT1.out.trans0 ht2)
  clear ht2 HT1
  go_wp2_with fail
  have hm : ∃ m : Nat, m = min l.length 20 := ⟨_, rfl⟩
  obtain ⟨m, hm⟩ := hm
  go_loopw [5] (fun i wr => ∃ j : Nat, j ≤ m + 2 ∧ i = .int .i64 ((j : Int) - 1) ∧ Turn [] w wr) (fun i _ => m + 2 - (intOf i + 1).toNat)
  case atStart => exact ⟨0, by omega, rfl, HT2.out⟩
  case round =>
    obtain ⟨j, hj, rfl, htr⟩ := hrel
    have HTr := hide htr
    clear htr
    go_wp2_with fail
    refine (rlen (HY.out _ (by repeat first | exact Turn.refl _ _ | exact (show Hid (Turn [] _ _) by assumption).out | refine Turn.drew ?_ | refine Turn.drewN ?_ _ | refine Turn.alloc ?_ _))).mono ?_
    rintro e w' ⟨rfl, rfl⟩
    by_cases hlt : j < m + 2
    · obtain ⟨⟨⟨p, q⟩, ok⟩, he⟩ : ∃ r, entryOf l ((j : Int) - 1) = r := ⟨_, rfl⟩
      have hj2 : IntKind.i64.wrap ((j : Int) - 1 + 1) = ((j + 1 : Nat) : Int) - 1 := by rw [IntKind.wrap_i64]; omega
      go_wp2_with fail
      refine (entry_at (HX.out _ (by repeat first | exact Turn.refl _ _ | exact (show Hid (Turn [] _ _) by assumption).out | refine Turn.drew ?_ | refine Turn.drewN ?_ _ | refine Turn.alloc ?_ _)) _).mono ?_
      rw [he]
      rintro e w3 ⟨rfl, ht3⟩
      have HT3 := hide (HTr.out.trans0 ht3)
      clear ht3
      go_wp2_with fail
      refine (rentry_at (HY.out _ (by repeat first | exact Turn.refl _ _ | exact (show Hid (Turn [] _ _) by assumption).out | refine Turn.drew ?_ | refine Turn.drewN ?_ _ | refine Turn.alloc ?_ _)) _).mono ?_
      rw [he]
      rintro e w4 ⟨rfl, ht4⟩
      have HB1 := hide (Blk.turn (Blk.new w3 29 #[.int .i64 p, .int .i64 q]) ht4 (by simp))
      have HT4 := hide (Turn.pre (w := w) (by repeat first | exact Turn.refl _ _ | exact (show Hid (Turn [] _ _) by assumption).out | refine Turn.drew ?_ | refine Turn.drewN ?_ _ | refine Turn.alloc ?_ _) ht4)
      have c1a := HB1.out.cell 0
      have c1b := HB1.out.cell 1
      have z1 := HB1.out.lt
      clear ht4 he
      go_wp2_with fail
      exact ⟨⟨j + 1, by omega, congrArg (Value.int .i64) (by omega), (by repeat first | exact Turn.refl _ _ | exact (show Hid (Turn [] _ _) by assumption).out | refine Turn.drew ?_ | refine Turn.drewN ?_ _ | refine Turn.alloc ?_ _)⟩, by simp [intOf] <;> omega⟩
    · obtain rfl : j = m + 2 := by omega
      obtain ⟨⟨⟨p, q⟩, ok⟩, he⟩ : ∃ r, lastOf l = r := ⟨_, rfl⟩
      go_wp2_with fail
      refine (last_at (HX.out _ (by repeat first | exact Turn.refl _ _ | exact (show Hid (Turn [] _ _) by assumption).out | refine Turn.drew ?_ | refine Turn.drewN ?_ _ | refine Turn.alloc ?_ _))).mono ?_
      rw [he]
      rintro e w3 ⟨rfl, ht3⟩
      have HT3 := hide (HTr.out.trans0 ht3)
      clear ht3
      go_wp2_with fail
      refine (rlast (HY.out _ (by repeat first | exact Turn.refl _ _ | exact (show Hid (Turn [] _ _) by assumption).out | refine Turn.drew ?_ | refine Turn.drewN ?_ _ | refine Turn.alloc ?_ _))).mono ?_
      rw [he]
      rintro e w4 ⟨rfl, ht4⟩
      have HB1 := hide (Blk.turn (Blk.new w3 29 #[.int .i64 p, .int .i64 q]) ht4 (by simp))
      have HT4 := hide (Turn.pre (w := w) (by repeat first | exact Turn.refl _ _ | exact (show Hid (Turn [] _ _) by assumption).out | refine Turn.drew ?_ | refine Turn.drewN ?_ _ | refine Turn.alloc ?_ _) ht4)
      have c1a := HB1.out.cell 0
      have c1b := HB1.out.cell 1
      have z1 := HB1.out.lt
      clear ht4 he
      go_wp2_with fail
      go_ret
      exact ⟨rfl, (by repeat first | exact Turn.refl _ _ | exact (show Hid (Turn [] _ _) by assumption).out | refine Turn.drew ?_ | refine Turn.drewN ?_ _ | refine Turn.alloc ?_ _)⟩
end Go.Proofs.Ytlnjemdnmndnfaa

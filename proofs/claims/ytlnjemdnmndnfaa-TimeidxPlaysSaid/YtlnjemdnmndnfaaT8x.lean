/- The bytes of an index, read and written; clones: walked. -/
import Derived.Test.YtlnjemdnmndnfaaT7x
import Derived.Test.YtlnjemdnmndnfaaBuilder
import Derived.Test.YtlnjemdnmndnfaaShelf
import Derived.Test.YtlnjemdnmndnfaaRWriter
import Derived.Test.YtlnjemdnmndnfaaRReader
namespace Go.Proofs.Ytlnjemdnmndnfaa
set_option linter.unusedVariables false
set_option linter.unusedSimpArgs false
open Go.RowKit K

def putB (l : List En) : List UInt8 := l.flatMap formB
theorem putB_length (l : List En) : (putB l).length = l.length * 16 := by
  induction l with
  | nil => rfl
  | cons e l ih => simp [putB, formB_length] at ih ⊢; omega
theorem putB_take (l : List En) (k : Nat) (h : k < l.length) : putB (l.take (k + 1)) = putB (l.take k) ++ formB l[k] := by
  unfold putB; rw [List.take_succ_eq_append_getElem h, List.flatMap_append]; simp
set_option maxHeartbeats 1600000 in
theorem rform_any (w : World) (x y : Int) : Calls Try.prog 27 #[.agg #[.int .i64 x, .int .i64 y]] w (Str (formB (x, y)) w) := by
  go_enter Try.func27, Try.ntmps27
  go_wp2_with fail
  refine (RW.new_any _).mono ?_
  rintro e w1 ⟨rfl, ht1, hw1⟩
  have HB1 := hide (Blk.turn (Blk.new w 29 #[.int .i64 x, .int .i64 y]) ht1 (by simp))
  have hc1 := HB1.out.cell 0
  have hz1 := HB1.out.lt
  have HT1 := hide (Turn.pre (w := w) (by repeat first | exact Turn.refl _ _ | exact (show Hid (Turn [] _ _) by assumption).out | refine Turn.drew ?_ | refine Turn.drewN ?_ _ | refine Turn.alloc ?_ _) ht1)
  obtain ⟨b, hb⟩ : ∃ b, b = (w.alloc (.cells #[.int .i64 x, .int .i64 y] 29)).heap.size := ⟨_, rfl⟩
  have hbw : w.heap.size < b := by rw [hb]; simp
  rw [← hb] at hw1 ⊢
  have HW1 := hide hw1
  clear ht1 hw1 hb
  go_wp2_with fail
  refine (RW.i64_at HW1.out x (by simp)).mono ?_
  rintro e w2 ⟨rfl, ht2, hw2⟩
  have HB2 := hide (HB1.out.turn ht2 (by simp; omega))
  have hc2 := HB2.out.cell 1
  have hz2 := HB2.out.lt
  have HT2 := hide (HT1.out.trans ht2 (fun k hk => .inr (by simp at hk; omega)))
  have HW2 := hide hw2
  clear ht2 hw2 hc1 hz1
  go_wp2_with fail
  refine (RW.i64_at HW2.out y (by simp [Wire.be8_length])).mono ?_
  rintro e w3 ⟨rfl, ht3, hw3⟩
  have HT3 := hide (HT2.out.trans ht3 (fun k hk => .inr (by simp at hk; omega)))
  have HW3 := hide hw3
  clear ht3 hw3 hc2 hz2
  go_wp2_with fail
  refine (RW.bytes_at HW3.out).mono ?_
  rintro e w4 ⟨rfl, rfl⟩
  go_wp2_with fail
  go_ret
  exact ⟨by simp [formB], HT3.out⟩
set_option maxHeartbeats 3200000 in
set_option maxRecDepth 100000 in
theorem bytes_reads (w : World) (xv : Value) {A : Option Addr} {l : List En} {c : Nat} (hl : ∀ wx, Turn [] w wx → Calls Try.prog 32 #[xv] wx fun e w' => e = .returned (.slice A l.length c) ∧ wx = w') (hr : Reads w 2 A l.length (ents l)) (hsz : l.length * 16 ≤ 140737488355328) :
    Calls Try.prog 22 #[xv] w (Str (putB l) w) := by
  have HL := hide hl
  have HR := hide hr
  clear hl hr
  go_enter Try.func22, Try.ntmps22
  go_wp2_with fail
  refine (HL.out _ (by repeat first | exact Turn.refl _ _ | exact (show Hid (Turn [] _ _) by assumption).out | refine Turn.drew ?_ | refine Turn.drewN ?_ _ | refine Turn.alloc ?_ _)).mono ?_
  rintro e w1 ⟨rfl, rfl⟩
  go_wp2_with fail
  have HI0 : Hid (Lib.IsBuilder 71 5 w.heap.size w.heap.size (bytesV (putB (l.take 0))) (w.alloc (.cells #[.pointer none, .slice none 0 0] 71))) := hide (Lib.fresh_isBuilder 71 5 w)
  go_loopw [9] (fun i wr => ∃ k : Nat, k ≤ l.length ∧ i = .int .i64 k ∧ Lib.IsBuilder 71 5 w.heap.size w.heap.size (bytesV (putB (l.take k))) wr ∧ Turn [] w wr) (fun i _ => l.length - (intOf i).toNat)
  case atStart => exact ⟨0, Nat.zero_le _, rfl, HI0.out, (by repeat first | exact Turn.refl _ _ | exact (show Hid (Turn [] _ _) by assumption).out | refine Turn.drew ?_ | refine Turn.drewN ?_ _ | refine Turn.alloc ?_ _)⟩
  case round =>
    clear HI0
    obtain ⟨k, hk, rfl, hb, ht⟩ := hrel
    by_cases hlt : k < l.length
    · obtain ⟨g, off, rfl, hg, hx, hy⟩ := reads_ent (HR.out.turn0 ht) hlt
      have HS := hide (putB_take l k hlt)
      have hlen : (putB (l.take k)).length ≤ k * 16 := by rw [putB_length, List.length_take]; omega
      obtain ⟨bs, hbs⟩ : ∃ bs, bs = putB (l.take k) := ⟨_, rfl⟩
      rw [← hbs] at HS hlen hb
      clear hbs
      obtain ⟨⟨x, y⟩, hq⟩ : ∃ q, q = l[k] := ⟨_, rfl⟩
      rw [← hq] at hx hy HS
      clear hq
      have HB := hide hb
      have HT := hide ht
      clear hb ht
      go_wp2_with fail
      refine (form_any _ x y).mono ?_
      rintro e w2 ⟨rfl, ht2⟩
      have HT2 := hide (Turn.pre (w := wr) (by repeat first | exact Turn.refl _ _ | exact (show Hid (Turn [] _ _) by assumption).out | refine Turn.drew ?_ | refine Turn.drewN ?_ _ | refine Turn.alloc ?_ _) ht2)
      have HB2 := hide (Bld.builder_turn0 HB.out HT2.out)
      clear ht2 hx hy
      go_wp2_with fail
      refine (Bld.write_any _ _ _ _ _ HB2.out (by rw [bytesV_length, strOf_size, formB_length]; omega) (by have := HT.out.size; have := HT2.out.size; omega)).mono ?_
      rintro e w3 ⟨rfl, hb3, hbl3⟩
      rw [strCells_eq, strOf_list, ← bytesV_append, ← HS.out] at hb3
      have HB3 := hide hb3
      have HT3 := hide (Bld.turn_below (HT.out.trans0 HT2.out) hbl3)
      clear hb3 hbl3
      go_wp2_with fail
      exact ⟨⟨k + 1, by omega, by go_num, .inr HB3.out, HT3.out⟩, by simp [intOf]; omega⟩
    · obtain rfl : k = l.length := by omega
      rw [List.take_length] at hb
      have HB := hide hb
      have HT := hide ht
      have hBw : w.heap.size ≤ wr.heap.size := ht.size
      clear hb ht
      go_wp2_with fail
      refine (Try.Builder_String_any _ _ (putB l) _ HB.out hBw).mono ?_
      rintro e w3 ⟨rfl, hbl3⟩
      have HT3 := hide (Bld.turn_below HT.out hbl3)
      clear hbl3
      go_wp2_with fail
      go_ret
      exact ⟨rfl, HT3.out⟩
theorem bytes_at {w : World} {F : List Nat} {b : Nat} {l : List En} (h : Ix 45 w F b l) : Calls Try.prog 22 #[.pointer (some ⟨b, 0, none⟩)] w (Str (putB l) w) := by
  obtain ⟨A, c, hc0, hr, hsz, hb, _⟩ := h.cell
  exact bytes_reads w _ (fun wx ht => list_cell wx b A l.length c ((ht.cells0.1 b 0 hb).trans hc0)) hr hsz
theorem bytes_nil (w : World) : Calls Try.prog 22 #[.pointer none] w (Str [] w) :=
  bytes_reads (A := none) (l := []) (c := 0) w _ (fun wx ht => list_nil wx) Reads.none_ (by simp)
set_option maxHeartbeats 3200000 in
set_option maxRecDepth 100000 in
theorem rbytes {w : World} {F : List Nat} {b : Nat} {l : List En} (h : Ix 34 w F b l) : Calls Try.prog 35 #[.pointer (some ⟨b, 0, none⟩)] w (Str (putB l) w) := by
  obtain ⟨A, c, hc0, hr, hsz, hb, _⟩ := h.cell
  have HR := hide hr
  clear h hr
  go_enter Try.func35, Try.ntmps35
  go_wp2_with fail
  refine (RW.new_any _).mono ?_
  rintro e w1 ⟨rfl, ht1, hw1⟩
  obtain ⟨d, hd⟩ : ∃ d, d = w.heap.size := ⟨_, rfl⟩
  rw [← hd] at hw1 ⊢
  have hdw : w.heap.size ≤ d := by omega
  have HT1 := hide ht1
  have HW1 : Hid (RW.Wr w1 d (putB (l.take 0))) := hide hw1
  clear ht1 hw1 hd
  go_wp2_with fail
  go_loopw [4] (fun i wr => ∃ k : Nat, k ≤ l.length ∧ i = .int .i64 k ∧ RW.Wr wr d (putB (l.take k)) ∧ Turn [] w wr) (fun i _ => l.length - (intOf i).toNat)
  case atStart => exact ⟨0, Nat.zero_le _, rfl, HW1.out, HT1.out⟩
  case round =>
    clear HT1 HW1
    obtain ⟨k, hk, rfl, hw, ht⟩ := hrel
    have hcb := (ht.cells0.1 b 0 hb).trans hc0
    have hbz : b < wr.heap.size := by have := ht.size; omega
    by_cases hlt : k < l.length
    · obtain ⟨g, off, rfl, hg, hx, hy⟩ := reads_ent (HR.out.turn0 ht) hlt
      have HS := hide (putB_take l k hlt)
      have hlen : (putB (l.take k)).length ≤ k * 16 := by rw [putB_length, List.length_take]; omega
      obtain ⟨bs, hbs⟩ : ∃ bs, bs = putB (l.take k) := ⟨_, rfl⟩
      rw [← hbs] at HS hlen hw
      clear hbs
      obtain ⟨⟨x, y⟩, hq⟩ : ∃ q, q = l[k] := ⟨_, rfl⟩
      rw [← hq] at hx hy HS
      clear hq
      have HW := hide hw
      have HT := hide ht
      clear hw ht
      go_wp2_with fail
      refine (rform_any _ x y).mono ?_
      rintro e w2 ⟨rfl, ht2⟩
      have HT2 := hide (HT.out.trans0 ht2)
      have HW2 := hide (Blk.turn (F := []) HW.out ht2 (by simp))
      clear ht2 hx hy hcb
      go_wp2_with fail
      refine (RW.raw_at HW2.out (strOf (formB (x, y))) (by rw [strOf_size, formB_length]; omega)).mono ?_
      rintro e w3 ⟨rfl, ht3, hw3⟩
      rw [strOf_list, ← HS.out] at hw3
      have HW3 := hide hw3
      have HT3 := hide (HT2.out.trans ht3 (fun x hx => .inr (by simp at hx; omega)))
      clear ht3 hw3
      go_wp2_with fail
      exact ⟨⟨k + 1, by omega, by go_num, HW3.out, HT3.out⟩, by simp [intOf]; omega⟩
    · obtain rfl : k = l.length := by omega
      rw [List.take_length] at hw
      have HW := hide hw
      have HT := hide ht
      clear hw ht
      go_wp2_with fail
      refine (RW.bytes_at HW.out).mono ?_
      rintro e w3 ⟨rfl, rfl⟩
      go_wp2_with fail
      go_ret
      exact ⟨rfl, HT.out⟩
end Go.Proofs.Ytlnjemdnmndnfaa

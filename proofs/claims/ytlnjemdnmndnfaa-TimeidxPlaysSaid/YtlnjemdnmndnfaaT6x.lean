/- TimeidxFinds, walked. -/
import Derived.Test.YtlnjemdnmndnfaaT5x
namespace Go.Proofs.Ytlnjemdnmndnfaa
set_option linter.unusedVariables false
set_option linter.unusedSimpArgs false
open Go.RowKit K

/-- the loop's: both hold l. -/
structure PR (w0 : World) (S : List Nat) (b d : Nat) (l : List En) (n : Nat) (wr : World) : Prop where
  pair : Pair wr S b d l
  len : l.length ≤ n
  new : ∀ k ∈ S, w0.heap.size ≤ k
  turn : Turn [] w0 wr
theorem PR.turn0 {w0 wr w1 : World} {S : List Nat} {b d : Nat} {l : List En} {n m : Nat} (h : PR w0 S b d l n wr) (ht : Turn [] wr w1) (hm : n ≤ m) : PR w0 S b d l m w1 :=
  ⟨h.pair.turn0 ht, Nat.le_trans h.len hm, h.new, h.turn.trans0 ht⟩
theorem PR.step {w0 wr w2 : World} {S : List Nat} {b d : Nat} {l L : List En} {n : Nat} (h : PR w0 S b d l n wr) (hb : Both S b d L wr w2) (hL : L.length ≤ l.length + 1) : ∃ S', PR w0 S' b d L (n + 1) w2 := by
  obtain ⟨S', hp, t2, hS⟩ := hb
  exact ⟨S', hp, by have := h.len; omega, fun k hk => by
    rcases hS k hk with h1 | h1
    · exact h.new k h1
    · have := h.turn.size; omega, h.turn.trans t2 (fun x hx => .inr (h.new x hx))⟩

set_option maxHeartbeats 8000000 in
set_option maxRecDepth 100000 in
theorem tfinds_any (w : World) (A : Option Addr) (c : Nat) (L : List En) (t : Int) (hr : Reads w 2 A L.length (ents L)) (hsz : L.length * 16 ≤ 140737488351232) :
    Calls Try.prog 3 #[.slice A L.length c, .int .i64 t] w (Same (.bool true) w) := by
  have HR := hide hr
  clear hr
  go_enter Try.func3, Try.ntmps3
  go_wp2_with fail
  refine (finds_any _).mono ?_
  rintro e w1 ⟨rfl, ht1⟩
  have HT1 := hide ht1
  clear ht1
  go_wp2_with fail
  refine (new_any _).mono ?_
  rintro e w2 ⟨b, rfl, hb, ht2, hx2⟩
  have HT2 := hide (HT1.out.trans0 ht2)
  have hb2 : w.heap.size ≤ b := by have := HT1.out.size; omega
  have HX2 := hide hx2
  clear ht2 hx2 hb
  go_wp2_with fail
  refine (rnew _).mono ?_
  rintro e w3 ⟨d, rfl, hd, ht3, hy3⟩
  have HP3 : Hid (PR w ([b] ++ [d]) b d [] 0 w3) := hide ⟨Pair.new HX2.out hy3 ht3 hd, by simp, by
    have := HT2.out.size
    intro k hk
    simp at hk
    omega, HT2.out.trans0 ht3⟩
  clear ht3 hy3 hd hb2 HT1 HT2 HX2
  go_wp2_with fail
  go_loopw [17] (fun i wr => ∃ (k : Nat) (S : List Nat) (l : List En), k ≤ L.length ∧ i = .int .i64 k ∧ PR w S b d l k wr) (fun i _ => L.length - (intOf i).toNat)
  case atStart => exact ⟨0, _, _, Nat.zero_le _, rfl, HP3.out⟩
  case round =>
    clear HP3
    obtain ⟨i, S, l, hi, rfl, hP⟩ := hrel
    by_cases hlt : i < L.length
    · obtain ⟨g, off, rfl, hg, hx, hy⟩ := reads_ent (HR.out.turn0 hP.turn) hlt
      obtain ⟨⟨k, a⟩, hq⟩ : ∃ q, q = L[i] := ⟨_, rfl⟩
      rw [← hq] at hx hy
      clear hq
      have HP := hide hP
      have hlen := hP.len
      have hsz1 : (l.length + 1) * 16 ≤ 140737488355328 := by omega
      obtain ⟨F, G, hS, hX, hY, hA, hM⟩ := hP.pair
      subst hS
      have HX0 := hide hX
      have HY0 := hide hY
      have HX := hide (fun wx (ht : Turn [] wr wx) => hX.turn0 ht)
      have HY := hide (fun wx (ht : Turn [] wr wx) => hY.turn0 ht)
      have HAp := hide hA
      have HMo := hide hM
      have HXl := hide hX.lt
      have HYl := hide hY.lt
      clear hP hX hY hA hM
      go_wp2_with fail
      go_region_held3 (fun w' => w'.cell? ⟨wr.heap.size, 0, none⟩ = some (.int .i64 k) ∧ w'.cell? ⟨wr.heap.size, 1, none⟩ = some (.int .i64 a)) (go_keep)
        (first
        | (go_at_call 12; refine ((app_at (l := l) ?_ k a hsz1).mono fun e w1 h => (h : App 45 (appE l (k, a)) (appL l (k, a)) F b _ e w1)).mono ?_; (exact HAC.out _ (by repeat first | exact Turn.refl _ _ | exact (show Hid (Turn [] _ _) by assumption).out | refine Turn.drew ?_ | refine Turn.drewN ?_ _ | refine Turn.alloc ?_ _)); rintro e wc9 ⟨F1, rfl, ht1, hx1, hF1⟩; have HBXc9 := hide (Blk.turn (by repeat first | exact Blk.new _ _ _ | exact (show Hid (Blk _ _ _ _) by assumption).out | refine Blk.drew ?_ | refine Blk.drewN ?_ _ | refine Blk.alloc ?_ _) ht1 (fun hm => by have := HXl.out _ hm; simp at this));  have HA1 := hide ht1; have HA2 := hide hx1; have HA3 := hide hF1; clear ht1 hx1 hF1; have hk0 := HBXc9.out.cell 0; have hk1 := HBXc9.out.cell 1)
        | (go_at_call 13; refine ((rapp (l := l) ?_ k a hsz1).mono fun e w1 h => (h : App 34 (appE l (k, a)) (appL l (k, a)) G d _ e w1)).mono ?_; (exact HBC.out _ (by repeat first | exact Turn.refl _ _ | exact (show Hid (Turn [] _ _) by assumption).out | refine Turn.drew ?_ | refine Turn.drewN ?_ _ | refine Turn.alloc ?_ _)); rintro e wc9 ⟨G1, rfl, ht1, hx1, hF1⟩; have HBXc9 := hide (Blk.turn (by repeat first | exact Blk.new _ _ _ | exact (show Hid (Blk _ _ _ _) by assumption).out | refine Blk.drew ?_ | refine Blk.drewN ?_ _ | refine Blk.alloc ?_ _) ht1 (fun hm => by have := HYl.out _ hm; simp at this));  have HB1 := hide ht1; have HB2 := hide hx1; have HB3 := hide hF1; clear ht1 hx1 hF1; have hk0 := HBXc9.out.cell 0; have hk1 := HBXc9.out.cell 1)
        | (go_at_call 12; refine ((app_at (l := l) ?_ k a hsz1).mono fun e w1 h => (h : App 45 (appE l (k, a)) (appL l (k, a)) F b _ e w1)).mono ?_; (exact HX.out _ (by repeat first | exact Turn.refl _ _ | exact (show Hid (Turn [] _ _) by assumption).out | refine Turn.drew ?_ | refine Turn.drewN ?_ _ | refine Turn.alloc ?_ _)); rintro e wc7 ⟨F1, rfl, ht1, hx1, hF1⟩; have HBXc7 := hide (Blk.turn (by repeat first | exact Blk.new _ _ _ | exact (show Hid (Blk _ _ _ _) by assumption).out | refine Blk.drew ?_ | refine Blk.drewN ?_ _ | refine Blk.alloc ?_ _) ht1 (fun hm => by have := HXl.out _ hm; simp at this)); have HBC := hide (fun wx (ht : Turn [] wc7 wx) => ((HY.out _ (by repeat first | exact Turn.refl _ _ | exact (show Hid (Turn [] _ _) by assumption).out | refine Turn.drew ?_ | refine Turn.drewN ?_ _ | refine Turn.alloc ?_ _)).turn ht1 (fun k hk hk' => HAp.out k hk' hk)).turn0 ht); have HA1 := hide ht1; have HA2 := hide hx1; have HA3 := hide hF1; clear ht1 hx1 hF1; have hk0 := HBXc7.out.cell 0; have hk1 := HBXc7.out.cell 1)
        | (go_at_call 13; refine ((rapp (l := l) ?_ k a hsz1).mono fun e w1 h => (h : App 34 (appE l (k, a)) (appL l (k, a)) G d _ e w1)).mono ?_; (exact HY.out _ (by repeat first | exact Turn.refl _ _ | exact (show Hid (Turn [] _ _) by assumption).out | refine Turn.drew ?_ | refine Turn.drewN ?_ _ | refine Turn.alloc ?_ _)); rintro e wc8 ⟨G1, rfl, ht1, hx1, hF1⟩; have HBXc8 := hide (Blk.turn (by repeat first | exact Blk.new _ _ _ | exact (show Hid (Blk _ _ _ _) by assumption).out | refine Blk.drew ?_ | refine Blk.drewN ?_ _ | refine Blk.alloc ?_ _) ht1 (fun hm => by have := HYl.out _ hm; simp at this)); have HAC := hide (fun wx (ht : Turn [] wc8 wx) => ((HX.out _ (by repeat first | exact Turn.refl _ _ | exact (show Hid (Turn [] _ _) by assumption).out | refine Turn.drew ?_ | refine Turn.drewN ?_ _ | refine Turn.alloc ?_ _)).turn ht1 (HAp.out)).turn0 ht); have HB1 := hide ht1; have HB2 := hide hx1; have HB3 := hide hF1; clear ht1 hx1 hF1; have hk0 := HBXc8.out.cell 0; have hk1 := HBXc8.out.cell 1))
      all_goals
        obtain ⟨S5, hP5⟩ := HP.out.step (both_xy HX0.out HY0.out HAp.out (mono_appL HMo.out (k, a)) (by repeat first | exact Turn.refl _ _ | exact (show Hid (Turn [] _ _) by assumption).out | refine Turn.drew ?_ | refine Turn.drewN ?_ _ | refine Turn.alloc ?_ _) HA1.out HA2.out HA3.out (by repeat first | exact Turn.refl _ _ | exact (show Hid (Turn [] _ _) by assumption).out | refine Turn.drew ?_ | refine Turn.drewN ?_ _ | refine Turn.alloc ?_ _) HB1.out HB2.out HB3.out (by repeat first | exact Turn.refl _ _ | exact (show Hid (Turn [] _ _) by assumption).out | refine Turn.drew ?_ | refine Turn.drewN ?_ _ | refine Turn.alloc ?_ _)) (appL_length l (k, a))
        have HP5 := hide hP5
        clear hP5 hk0 hk1
        go_wp2_with fail
        exact ⟨⟨i + 1, S5, _, by omega, by go_num, HP5.out⟩, by simp [intOf] <;> omega⟩
    · obtain rfl : i = L.length := by omega
      have HP := hide hP
      clear hP
      go_wp2_with fail
      refine (found_any HP.out.pair t).mono ?_
      rintro e w5 ⟨rfl, ht5⟩
      have HP5 := hide (HP.out.turn0 ht5 (Nat.le_refl _))
      clear ht5 HP
      obtain ⟨F, G, hS, hX, hY, hA, hM⟩ := HP5.out.pair
      obtain ⟨A6, c6, hcd, hrd, hsz6, hdw, _⟩ := hY.cell
      have HRd := hide (fun wx (ht : Turn [] w5 wx) => hrd.turn0 ht)
      have HPw := hide (fun wx (ht : Turn [] w5 wx) => HP5.out.pair.turn0 ht)
      have HTw := hide HP5.out.turn
      clear hS hX hY hA hM hrd HP5
      go_wp2_with fail
      go_loopw [39] (fun i wr => ∃ k : Nat, k ≤ l.length ∧ i = .int .i64 k ∧ Turn [] w5 wr) (fun i _ => l.length - (intOf i).toNat)
      case atStart => exact ⟨0, Nat.zero_le _, rfl, Turn.refl _ _⟩
      case round =>
        rename_i wq
        obtain ⟨k, hk, rfl, htr⟩ := hrel
        have HTr := hide htr
        clear htr
        by_cases hkl : k < l.length
        · obtain ⟨g, off, rfl, hg, hx, hy⟩ := reads_ent (HRd.out _ HTr.out) hkl
          obtain ⟨⟨x, y⟩, hq⟩ : ∃ q, q = l[k] := ⟨_, rfl⟩
          rw [← hq] at hx hy
          clear hq hcd
          go_wp2_with fail
          refine (found_any (HPw.out _ (by repeat first | exact Turn.refl _ _ | exact (show Hid (Turn [] _ _) by assumption).out | refine Turn.drew ?_ | refine Turn.drewN ?_ _ | refine Turn.alloc ?_ _)) _).mono ?_
          rintro e w6 ⟨rfl, ht6⟩
          have HB6 := hide (Blk.turn (by repeat first | exact Blk.new _ _ _ | exact (show Hid (Blk _ _ _ _) by assumption).out | refine Blk.drew ?_ | refine Blk.drewN ?_ _ | refine Blk.alloc ?_ _) ht6 (by simp))
          have HT6 := hide (Turn.pre (w := w5) (by repeat first | exact Turn.refl _ _ | exact (show Hid (Turn [] _ _) by assumption).out | refine Turn.drew ?_ | refine Turn.drewN ?_ _ | refine Turn.alloc ?_ _) ht6)
          have hc6 : w6.cell? ⟨wr.heap.size, 0, none⟩ = some (.int .i64 x) := HB6.out.cell 0
          have hz6 := HB6.out.lt
          clear ht6 hx hy
          go_wp2_with fail
          refine (found_any (HPw.out _ (by repeat first | exact Turn.refl _ _ | exact (show Hid (Turn [] _ _) by assumption).out | refine Turn.drew ?_ | refine Turn.drewN ?_ _ | refine Turn.alloc ?_ _)) _).mono ?_
          rintro e w7 ⟨rfl, ht7⟩
          have HB7 := hide (HB6.out.turn ht7 (by simp))
          have HT7 := hide (Turn.pre (w := w5) (by repeat first | exact Turn.refl _ _ | exact (show Hid (Turn [] _ _) by assumption).out | refine Turn.drew ?_ | refine Turn.drewN ?_ _ | refine Turn.alloc ?_ _) ht7)
          have hc7 : w7.cell? ⟨wr.heap.size, 0, none⟩ = some (.int .i64 x) := HB7.out.cell 0
          have hz7 := HB7.out.lt
          clear ht7 hc6 hz6
          go_wp2_with fail
          refine (found_any (HPw.out _ (by repeat first | exact Turn.refl _ _ | exact (show Hid (Turn [] _ _) by assumption).out | refine Turn.drew ?_ | refine Turn.drewN ?_ _ | refine Turn.alloc ?_ _)) _).mono ?_
          rintro e w8 ⟨rfl, ht8⟩
          have HT8 := hide (Turn.pre (w := w5) (by repeat first | exact Turn.refl _ _ | exact (show Hid (Turn [] _ _) by assumption).out | refine Turn.drew ?_ | refine Turn.drewN ?_ _ | refine Turn.alloc ?_ _) ht8)
          clear ht8 hc7 hz7 HT6 HT7 HB6 HB7
          go_wp2_with fail
          exact ⟨⟨k + 1, by omega, by go_num, HT8.out⟩, by simp [intOf] <;> omega⟩
        · obtain rfl : k = l.length := by omega
          have HE := hide (HTw.out.trans0 HTr.out)
          go_wp2_with fail
          go_ret
          exact ⟨rfl, HE.out⟩
end Go.Proofs.Ytlnjemdnmndnfaa

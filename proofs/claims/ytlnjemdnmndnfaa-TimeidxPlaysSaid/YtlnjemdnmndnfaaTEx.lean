/- TimeidxPlays, walked. -/
import Derived.Test.YtlnjemdnmndnfaaTCx
import Derived.Test.YtlnjemdnmndnfaaTDx
namespace Go.Proofs.Ytlnjemdnmndnfaa
set_option linter.unusedVariables false
set_option linter.unusedSimpArgs false
open Go.RowKit K

theorem appL_cases (l : List En) (e : En) : appL l e = l ∨ (appE l e = 0 ∧ appL l e = l ++ [e]) := by
  by_cases h : appE l e = 0
  · exact .inr ⟨h, appL_of h⟩
  · left
    unfold appE at h
    unfold appL
    split
    · rfl
    · rename_i h1; rw [if_neg h1] at h
      split
      · rename_i h2; rw [if_pos h2] at h; exact absurd rfl h
      · rfl
/-- in range, and each fits. -/
def Fine (l : List En) : Prop := Good l ∧ ∀ e ∈ l, inR e
theorem fine_nil : Fine [] := ⟨good_nil, by simp⟩
theorem fine_appL {l : List En} (h : Fine l) {e : En} (he : inR e) : Fine (appL l e) := by
  rcases appL_cases l e with h1 | ⟨h1, h2⟩
  · rw [h1]; exact h
  · rw [h2]
    exact ⟨good_snoc h.1 h1, fun x hx => by
      rcases List.mem_append.1 hx with h3 | h3
      · exact h.2 x h3
      · simp at h3; subst h3; exact he⟩
theorem fine_cutL {l : List En} (h : Fine l) (n : Int) : Fine (cutL l n) := by
  unfold cutL
  split
  · exact ⟨good_take h.1 _, fun e he => h.2 e (List.mem_of_mem_take he)⟩
  · exact h
/-- an index's own bytes are read as that index. -/
theorem read_own (w : World) {l : List En} (h : Fine l) (hs : l.length * 16 ≤ 140737488351232) : Calls Try.prog 24 #[.string (strOf (putB l))] w (LoadYes 45 l w) := by
  have h1 := read_yes w (strOf (putB l)) l.length (by rw [strOf_size, putB_length]; omega) (by rw [strOf_size, putB_length]; omega)
  rw [strOf_list, readL_putB l h.2, load_good h.1] at h1
  exact h1.mono fun e w' h => h.1 _ rfl

set_option maxHeartbeats 16000000 in
set_option maxRecDepth 100000 in
theorem plays_any (w : World) (A : Option Addr) (c : Nat) (L : List Op4) (hr : Reads w 4 A L.length (opsV L)) (hsz : L.length * 32 ≤ 140737488351232) (hop : ∀ o ∈ L, opR o) :
    Calls Try.prog 8 #[.slice A L.length c] w (Same (.bool true) w) := by
  have HR := hide hr
  have HOp := hide hop
  clear hr hop
  go_enter Try.func8, Try.ntmps8
  go_wp2_with fail
  refine (finds_any _).mono ?_
  rintro e w1 ⟨rfl, ht1⟩
  have HT1 := hide ht1
  clear ht1
  go_wp2_with fail
  refine (new_any _).mono ?_
  rintro e w2 ⟨b, rfl, hb, ht2, hx2⟩
  have HT2 := hide (HT1.out.trans0 ht2)
  have hb2 : w.heap.size ≤ b := by have := HT1.out.size; omega
  have HX2 := hide hx2
  clear ht2 hx2 hb
  go_wp2_with fail
  refine (rnew _).mono ?_
  rintro e w3 ⟨d, rfl, hd, ht3, hy3⟩
  have HP3 : Hid (PR w ([b] ++ [d]) b d [] 0 w3) := hide ⟨Pair.new HX2.out hy3 ht3 hd, by simp, by
    have := HT2.out.size
    intro k hk
    simp at hk
    omega, HT2.out.trans0 ht3⟩
  clear ht3 hy3 hd hb2 HT1 HT2 HX2
  go_wp2_with fail
  go_loopw [3, 16] (fun x i wr => ∃ (k : Nat) (S : List Nat) (b : Nat) (l : List En), k ≤ L.length ∧ i = .int .i64 k ∧ x = .pointer (some ⟨b, 0, none⟩) ∧ PR w S b d l k wr ∧ Fine l) (fun _ i _ => L.length - (intOf i).toNat)
  case atStart => exact ⟨0, _, _, _, Nat.zero_le _, rfl, by trivial, HP3.out, fine_nil⟩
  case round =>
    clear HP3
    obtain ⟨i, S, b, l, hi, rfl, rfl, hP, hF⟩ := hrel
    have HFi := hide hF
    clear hF
    by_cases hlt : i < L.length
    · obtain ⟨p0, off, rfl, hg0, hx0, hx1, hx2, hx3⟩ := reads_op (HR.out.turn0 hP.turn) hlt
      have hopi := HOp.out L[i] (List.getElem_mem _)
      obtain ⟨⟨⟨kd, k, a⟩, n⟩, hq⟩ : ∃ q, q = L[i] := ⟨_, rfl⟩
      rw [← hq] at hx0 hx1 hx2 hx3 hopi
      have hkd : 0 ≤ kd ∧ kd ≤ 255 := hopi.1
      have HE : Hid (inR (k, a)) := hide hopi.2.1
      clear hq hopi
      have HP := hide hP
      have hlen := hP.len
      have hsz1 : (l.length + 1) * 16 ≤ 140737488355328 := by omega
      clear hP
      have hk5 : kd % 5 = 0 ∨ kd % 5 = 1 ∨ kd % 5 = 2 ∨ kd % 5 = 3 ∨ kd % 5 = 4 := by omega
      rcases hk5 with h5 | h5 | h5 | h5 | h5
      · go_wp2_with fail
        have HPz : Hid (PR w S b d l i (wr.alloc (.cells #[.int .u8 kd, .int .i64 k, .int .i64 a, .int .i64 n] 47))) := hide (HP.out.turn0 ((Turn.refl _ _).alloc _) (Nat.le_refl _))
        obtain ⟨g, hg⟩ : ∃ g, g = wr.heap.size := ⟨_, rfl⟩
        have HG : Hid (∀ x ∈ S, x ≠ g) := hide (fun x hx => by have := HP.out.pair.lt x hx; omega)
        have HBz : Hid (Blk (wr.alloc (.cells #[.int .u8 kd, .int .i64 k, .int .i64 a, .int .i64 n] 47)) g 47 #[.int .u8 kd, .int .i64 k, .int .i64 a, .int .i64 n]) := hide (by rw [hg]; exact Blk.new _ _ _)
        rw [← hg]
        clear hg hx0 hx1 hx2 hx3 HP
        generalize wr.alloc (.cells #[.int .u8 kd, .int .i64 k, .int .i64 a, .int .i64 n] 47) = wz at *
        have hk0 := HBz.out.cell 0
        have hk1 := HBz.out.cell 1
        have hk2 := HBz.out.cell 2
        have hk3 := HBz.out.cell 3
        have hzz := HBz.out.lt
        obtain ⟨F, G, hS, hX, hY, hA, hM⟩ := HPz.out.pair
        subst hS
        have HX0 := hide hX
        have HY0 := hide hY
        have HX := hide (fun wx (ht : Turn [] wz wx) => hX.turn0 ht)
        have HY := hide (fun wx (ht : Turn [] wz wx) => hY.turn0 ht)
        have HAp := hide hA
        have HMo := hide hM
        have HGF : Hid (g ∉ F) := hide (fun h => HG.out g (by simp [h]) rfl)
        have HGG : Hid (g ∉ G) := hide (fun h => HG.out g (by simp [h]) rfl)
        have HGz := hide hzz
        clear hX hY hA hM hzz
        go_region_held3 (fun w' => w'.cell? ⟨g, 1, none⟩ = some (.int .i64 k) ∧ w'.cell? ⟨g, 2, none⟩ = some (.int .i64 a) ∧ w'.cell? ⟨g, 3, none⟩ = some (.int .i64 n)) (go_keep)
          (first
          | (go_at_call 12; refine ((app_at (l := l) ?_ k a hsz1).mono fun e w1 h => (h : App 45 (appE l (k, a)) (appL l (k, a)) F b _ e w1)).mono ?_; (exact HX.out _ (by repeat first | exact Turn.refl _ _ | exact (show Hid (Turn [] _ _) by assumption).out | refine Turn.drew ?_ | refine Turn.drewN ?_ _ | refine Turn.alloc ?_ _)); rintro e va ⟨F1, rfl, ht1, hx1, hF1⟩; have HBa := hide (Blk.turn (by repeat first | exact Blk.new _ _ _ | exact (show Hid (Blk _ _ _ _) by assumption).out | refine Blk.drew ?_ | refine Blk.drewN ?_ _ | refine Blk.alloc ?_ _) ht1 HGF.out); have HYa := hide (fun wx (ht : Turn [] va wx) => ((HY.out _ (by repeat first | exact Turn.refl _ _ | exact (show Hid (Turn [] _ _) by assumption).out | refine Turn.drew ?_ | refine Turn.drewN ?_ _ | refine Turn.alloc ?_ _)).turn ht1 (fun k hk hk' => HAp.out k hk' hk)).turn0 ht); have HAa1 := hide ht1; have HAa2 := hide hx1; have HAa3 := hide hF1; clear ht1 hx1 hF1; have hk1 := HBa.out.cell 1; have hk2 := HBa.out.cell 2; have hk3 := HBa.out.cell 3; have hzz := HBa.out.lt)
          | (go_at_call 13; refine ((rapp (l := l) ?_ k a hsz1).mono fun e w1 h => (h : App 34 (appE l (k, a)) (appL l (k, a)) G d _ e w1)).mono ?_; (exact HYa.out _ (by repeat first | exact Turn.refl _ _ | exact (show Hid (Turn [] _ _) by assumption).out | refine Turn.drew ?_ | refine Turn.drewN ?_ _ | refine Turn.alloc ?_ _)); rintro e vb ⟨G1, rfl, ht1, hx1, hF1⟩; have HBb := hide (Blk.turn (by repeat first | exact Blk.new _ _ _ | exact (show Hid (Blk _ _ _ _) by assumption).out | refine Blk.drew ?_ | refine Blk.drewN ?_ _ | refine Blk.alloc ?_ _) ht1 HGG.out); have HBo1 := hide (both_xy HX0.out HY0.out HAp.out (mono_appL HMo.out (k, a)) (by repeat first | exact Turn.refl _ _ | exact (show Hid (Turn [] _ _) by assumption).out | refine Turn.drew ?_ | refine Turn.drewN ?_ _ | refine Turn.alloc ?_ _) HAa1.out HAa2.out HAa3.out (by repeat first | exact Turn.refl _ _ | exact (show Hid (Turn [] _ _) by assumption).out | refine Turn.drew ?_ | refine Turn.drewN ?_ _ | refine Turn.alloc ?_ _) ht1 hx1 hF1 (Turn.refl [] _)); obtain ⟨S1, hp1, t1, hn1, hg1⟩ := HBo1.out.ne HG.out HGz.out; have HPn := hide (HPz.out.next hp1 t1 hn1 (appL_len hlen _)); clear ht1 hx1 hF1 hp1 t1 hn1 hg1; have hk1 := HBb.out.cell 1; have hk2 := HBb.out.cell 2; have hk3 := HBb.out.cell 3; have hzz := HBb.out.lt))
        have HFn := hide (fine_appL HFi.out HE.out)
        obtain ⟨F5, G5, hS5, hX5, hY5, hA5, hM5⟩ := HPn.out.pair
        have HX5 := hide (fun wx (ht : Turn [] vb wx) => hX5.turn0 ht)
        have HY5 := hide (fun wx (ht : Turn [] vb wx) => hY5.turn0 ht)
        clear hX5 hY5 hA5 hM5 hS5
        go_wp2_with fail
        refine (agree_any (HX5.out _ (by repeat first | exact Turn.refl _ _ | exact (show Hid (Turn [] _ _) by assumption).out | refine Turn.drew ?_ | refine Turn.drewN ?_ _ | refine Turn.alloc ?_ _)) (HY5.out _ (by repeat first | exact Turn.refl _ _ | exact (show Hid (Turn [] _ _) by assumption).out | refine Turn.drew ?_ | refine Turn.drewN ?_ _ | refine Turn.alloc ?_ _))).mono ?_
        rintro e we ⟨rfl, hte⟩
        have HPe := hide (HPn.out.turn0 (Turn.pre (w := vb) (by repeat first | exact Turn.refl _ _ | exact (show Hid (Turn [] _ _) by assumption).out | refine Turn.drew ?_ | refine Turn.drewN ?_ _ | refine Turn.alloc ?_ _) hte) (Nat.le_refl _))
        clear hte
        go_wp2_with fail
        exact ⟨⟨i + 1, S1, b, _, by omega, by go_num, rfl, HPe.out, HFn.out⟩, by simp [intOf] <;> omega⟩
      · go_wp2_with fail
        have HPz : Hid (PR w S b d l i (wr.alloc (.cells #[.int .u8 kd, .int .i64 k, .int .i64 a, .int .i64 n] 47))) := hide (HP.out.turn0 ((Turn.refl _ _).alloc _) (Nat.le_refl _))
        obtain ⟨g, hg⟩ : ∃ g, g = wr.heap.size := ⟨_, rfl⟩
        have HG : Hid (∀ x ∈ S, x ≠ g) := hide (fun x hx => by have := HP.out.pair.lt x hx; omega)
        have HBz : Hid (Blk (wr.alloc (.cells #[.int .u8 kd, .int .i64 k, .int .i64 a, .int .i64 n] 47)) g 47 #[.int .u8 kd, .int .i64 k, .int .i64 a, .int .i64 n]) := hide (by rw [hg]; exact Blk.new _ _ _)
        rw [← hg]
        clear hg hx0 hx1 hx2 hx3 HP
        generalize wr.alloc (.cells #[.int .u8 kd, .int .i64 k, .int .i64 a, .int .i64 n] 47) = wz at *
        have hk0 := HBz.out.cell 0
        have hk1 := HBz.out.cell 1
        have hk2 := HBz.out.cell 2
        have hk3 := HBz.out.cell 3
        have hzz := HBz.out.lt
        obtain ⟨F, G, hS, hX, hY, hA, hM⟩ := HPz.out.pair
        subst hS
        have HX0 := hide hX
        have HY0 := hide hY
        have HX := hide (fun wx (ht : Turn [] wz wx) => hX.turn0 ht)
        have HY := hide (fun wx (ht : Turn [] wz wx) => hY.turn0 ht)
        have HAp := hide hA
        have HMo := hide hM
        have HGF : Hid (g ∉ F) := hide (fun h => HG.out g (by simp [h]) rfl)
        have HGG : Hid (g ∉ G) := hide (fun h => HG.out g (by simp [h]) rfl)
        have HGz := hide hzz
        clear hX hY hA hM hzz
        go_region_held3 (fun w' => w'.cell? ⟨g, 1, none⟩ = some (.int .i64 k) ∧ w'.cell? ⟨g, 2, none⟩ = some (.int .i64 a) ∧ w'.cell? ⟨g, 3, none⟩ = some (.int .i64 n)) (go_keep)
          (first
          | (go_at_call 16; refine ((cut_at (l := l) ?_ n).mono fun e w1 h => (h : App 45 (cutE l n) (cutL l n) F b _ e w1)).mono ?_; (exact HX.out _ (by repeat first | exact Turn.refl _ _ | exact (show Hid (Turn [] _ _) by assumption).out | refine Turn.drew ?_ | refine Turn.drewN ?_ _ | refine Turn.alloc ?_ _)); rintro e va ⟨F1, rfl, ht1, hx1, hF1⟩; have HBa := hide (Blk.turn (by repeat first | exact Blk.new _ _ _ | exact (show Hid (Blk _ _ _ _) by assumption).out | refine Blk.drew ?_ | refine Blk.drewN ?_ _ | refine Blk.alloc ?_ _) ht1 HGF.out); have HYa := hide (fun wx (ht : Turn [] va wx) => ((HY.out _ (by repeat first | exact Turn.refl _ _ | exact (show Hid (Turn [] _ _) by assumption).out | refine Turn.drew ?_ | refine Turn.drewN ?_ _ | refine Turn.alloc ?_ _)).turn ht1 (fun k hk hk' => HAp.out k hk' hk)).turn0 ht); have HAa1 := hide ht1; have HAa2 := hide hx1; have HAa3 := hide hF1; clear ht1 hx1 hF1; have hk1 := HBa.out.cell 1; have hk2 := HBa.out.cell 2; have hk3 := HBa.out.cell 3; have hzz := HBa.out.lt)
          | (go_at_call 17; refine ((rcut (l := l) ?_ n).mono fun e w1 h => (h : App 34 (cutE l n) (cutL l n) G d _ e w1)).mono ?_; (exact HYa.out _ (by repeat first | exact Turn.refl _ _ | exact (show Hid (Turn [] _ _) by assumption).out | refine Turn.drew ?_ | refine Turn.drewN ?_ _ | refine Turn.alloc ?_ _)); rintro e vb ⟨G1, rfl, ht1, hx1, hF1⟩; have HBb := hide (Blk.turn (by repeat first | exact Blk.new _ _ _ | exact (show Hid (Blk _ _ _ _) by assumption).out | refine Blk.drew ?_ | refine Blk.drewN ?_ _ | refine Blk.alloc ?_ _) ht1 HGG.out); have HBo1 := hide (both_xy HX0.out HY0.out HAp.out (mono_cutL HMo.out n) (by repeat first | exact Turn.refl _ _ | exact (show Hid (Turn [] _ _) by assumption).out | refine Turn.drew ?_ | refine Turn.drewN ?_ _ | refine Turn.alloc ?_ _) HAa1.out HAa2.out HAa3.out (by repeat first | exact Turn.refl _ _ | exact (show Hid (Turn [] _ _) by assumption).out | refine Turn.drew ?_ | refine Turn.drewN ?_ _ | refine Turn.alloc ?_ _) ht1 hx1 hF1 (Turn.refl [] _)); obtain ⟨S1, hp1, t1, hn1, hg1⟩ := HBo1.out.ne HG.out HGz.out; have HPn := hide (HPz.out.next hp1 t1 hn1 (Nat.le_trans (cutL_length _ _) (Nat.le_succ_of_le hlen))); clear ht1 hx1 hF1 hp1 t1 hn1 hg1; have hk1 := HBb.out.cell 1; have hk2 := HBb.out.cell 2; have hk3 := HBb.out.cell 3; have hzz := HBb.out.lt))
        have HFn := hide (fine_cutL HFi.out n)
        obtain ⟨F5, G5, hS5, hX5, hY5, hA5, hM5⟩ := HPn.out.pair
        have HX5 := hide (fun wx (ht : Turn [] vb wx) => hX5.turn0 ht)
        have HY5 := hide (fun wx (ht : Turn [] vb wx) => hY5.turn0 ht)
        clear hX5 hY5 hA5 hM5 hS5
        go_wp2_with fail
        refine (agree_any (HX5.out _ (by repeat first | exact Turn.refl _ _ | exact (show Hid (Turn [] _ _) by assumption).out | refine Turn.drew ?_ | refine Turn.drewN ?_ _ | refine Turn.alloc ?_ _)) (HY5.out _ (by repeat first | exact Turn.refl _ _ | exact (show Hid (Turn [] _ _) by assumption).out | refine Turn.drew ?_ | refine Turn.drewN ?_ _ | refine Turn.alloc ?_ _))).mono ?_
        rintro e we ⟨rfl, hte⟩
        have HPe := hide (HPn.out.turn0 (Turn.pre (w := vb) (by repeat first | exact Turn.refl _ _ | exact (show Hid (Turn [] _ _) by assumption).out | refine Turn.drew ?_ | refine Turn.drewN ?_ _ | refine Turn.alloc ?_ _) hte) (Nat.le_refl _))
        clear hte
        go_wp2_with fail
        exact ⟨⟨i + 1, S1, b, _, by omega, by go_num, rfl, HPe.out, HFn.out⟩, by simp [intOf] <;> omega⟩
      · go_wp2_with fail
        have HPz : Hid (PR w S b d l i (wr.alloc (.cells #[.int .u8 kd, .int .i64 k, .int .i64 a, .int .i64 n] 47))) := hide (HP.out.turn0 ((Turn.refl _ _).alloc _) (Nat.le_refl _))
        clear hx0 hx1 hx2 hx3 HP
        generalize wr.alloc (.cells #[.int .u8 kd, .int .i64 k, .int .i64 a, .int .i64 n] 47) = wz at *
        refine (found_any (HPz.out.pair.turn0 (by repeat first | exact Turn.refl _ _ | exact (show Hid (Turn [] _ _) by assumption).out | refine Turn.drew ?_ | refine Turn.drewN ?_ _ | refine Turn.alloc ?_ _)) _).mono ?_
        rintro e v1 ⟨rfl, ht1⟩
        have HPn := hide (HPz.out.turn0 ht1 (Nat.le_succ i))
        clear ht1
        have HFn := hide (HFi.out)
        obtain ⟨F5, G5, hS5, hX5, hY5, hA5, hM5⟩ := HPn.out.pair
        have HX5 := hide (fun wx (ht : Turn [] v1 wx) => hX5.turn0 ht)
        have HY5 := hide (fun wx (ht : Turn [] v1 wx) => hY5.turn0 ht)
        clear hX5 hY5 hA5 hM5 hS5
        go_wp2_with fail
        refine (agree_any (HX5.out _ (by repeat first | exact Turn.refl _ _ | exact (show Hid (Turn [] _ _) by assumption).out | refine Turn.drew ?_ | refine Turn.drewN ?_ _ | refine Turn.alloc ?_ _)) (HY5.out _ (by repeat first | exact Turn.refl _ _ | exact (show Hid (Turn [] _ _) by assumption).out | refine Turn.drew ?_ | refine Turn.drewN ?_ _ | refine Turn.alloc ?_ _))).mono ?_
        rintro e we ⟨rfl, hte⟩
        have HPe := hide (HPn.out.turn0 (Turn.pre (w := v1) (by repeat first | exact Turn.refl _ _ | exact (show Hid (Turn [] _ _) by assumption).out | refine Turn.drew ?_ | refine Turn.drewN ?_ _ | refine Turn.alloc ?_ _) hte) (Nat.le_refl _))
        clear hte
        go_wp2_with fail
        exact ⟨⟨i + 1, S, b, l, by omega, by go_num, rfl, HPe.out, HFn.out⟩, by simp [intOf] <;> omega⟩
      · go_wp2_with fail
        have HPz : Hid (PR w S b d l i (wr.alloc (.cells #[.int .u8 kd, .int .i64 k, .int .i64 a, .int .i64 n] 47))) := hide (HP.out.turn0 ((Turn.refl _ _).alloc _) (Nat.le_refl _))
        clear hx0 hx1 hx2 hx3 HP
        generalize wr.alloc (.cells #[.int .u8 kd, .int .i64 k, .int .i64 a, .int .i64 n] 47) = wz at *
        obtain ⟨F, G, hS, hX, hY, hA, hM⟩ := HPz.out.pair
        have HY := hide (fun wx (ht : Turn [] wz wx) => hY.turn0 ht)
        refine (clone_at hX).mono ?_
        rintro e v1 ⟨F1, y, rfl, ht1, hx1, hn1⟩
        have HT1 := hide ht1
        have HX1 := hide hx1
        have HN1 := hide hn1
        clear ht1 hx1 hn1 hX hY hA hM
        go_wp2_with fail
        refine (agree_any HX1.out (HY.out _ (by repeat first | exact Turn.refl _ _ | exact (show Hid (Turn [] _ _) by assumption).out | refine Turn.drew ?_ | refine Turn.drewN ?_ _ | refine Turn.alloc ?_ _))).mono ?_
        rintro e v2 ⟨rfl, ht2⟩
        have HX2 := hide (HX1.out.turn0 ht2)
        have HT2 := hide (HT1.out.trans0 ht2)
        clear ht2
        go_wp2_with fail
        refine (cut_at HX2.out 0).mono ?_
        rintro e v3 ⟨F3, rfl, ht3, hx3, hn3⟩
        have HX3 := hide hx3
        have HN3 : Hid (∀ x ∈ F3, wz.heap.size ≤ x) := hide (fun x hx => by
          rcases hn3 x hx with h | h
          · exact HN1.out x h
          · have := HT2.out.size; omega)
        have HT3 := hide (HT2.out.trans ht3 (fun x hx => .inr (HN1.out x hx)))
        have hcl := cutL_length l 0
        generalize cutE l 0 = E3 at *
        clear ht3 hx3 hn3
        go_wp2_with fail
        refine (app_at HX3.out 99 99 (by omega)).mono ?_
        rintro e v4 ⟨F4, rfl, ht4, hx4, hn4⟩
        have HT4 := hide (HT3.out.trans ht4 (fun x hx => .inr (HN3.out x hx)))
        have HPn := hide (HPz.out.turn0 HT4.out (Nat.le_succ i))
        generalize appE (cutL l 0) (99, 99) = E4 at *
        clear ht4 hx4 hn4 hcl
        have HFn := hide (HFi.out)
        obtain ⟨F5, G5, hS5, hX5, hY5, hA5, hM5⟩ := HPn.out.pair
        have HX5 := hide (fun wx (ht : Turn [] v4 wx) => hX5.turn0 ht)
        have HY5 := hide (fun wx (ht : Turn [] v4 wx) => hY5.turn0 ht)
        clear hX5 hY5 hA5 hM5 hS5
        go_wp2_with fail
        refine (agree_any (HX5.out _ (by repeat first | exact Turn.refl _ _ | exact (show Hid (Turn [] _ _) by assumption).out | refine Turn.drew ?_ | refine Turn.drewN ?_ _ | refine Turn.alloc ?_ _)) (HY5.out _ (by repeat first | exact Turn.refl _ _ | exact (show Hid (Turn [] _ _) by assumption).out | refine Turn.drew ?_ | refine Turn.drewN ?_ _ | refine Turn.alloc ?_ _))).mono ?_
        rintro e we ⟨rfl, hte⟩
        have HPe := hide (HPn.out.turn0 (Turn.pre (w := v4) (by repeat first | exact Turn.refl _ _ | exact (show Hid (Turn [] _ _) by assumption).out | refine Turn.drew ?_ | refine Turn.drewN ?_ _ | refine Turn.alloc ?_ _) hte) (Nat.le_refl _))
        clear hte
        go_wp2_with fail
        exact ⟨⟨i + 1, S, b, l, by omega, by go_num, rfl, HPe.out, HFn.out⟩, by simp [intOf] <;> omega⟩
      · go_wp2_with fail
        have HPz : Hid (PR w S b d l i (wr.alloc (.cells #[.int .u8 kd, .int .i64 k, .int .i64 a, .int .i64 n] 47))) := hide (HP.out.turn0 ((Turn.refl _ _).alloc _) (Nat.le_refl _))
        clear hx0 hx1 hx2 hx3 HP
        generalize wr.alloc (.cells #[.int .u8 kd, .int .i64 k, .int .i64 a, .int .i64 n] 47) = wz at *
        obtain ⟨F, G, hS, hX, hY, hA, hM⟩ := HPz.out.pair
        subst hS
        have HX := hide (fun wx (ht : Turn [] wz wx) => hX.turn0 ht)
        have HY := hide (fun wx (ht : Turn [] wz wx) => hY.turn0 ht)
        have HGn : Hid (∀ x ∈ G, w.heap.size ≤ x) := hide (fun x hx => HPz.out.new x (by simp [hx]))
        have HGl := hide hY.lt
        refine (bytes_at hX).mono ?_
        rintro e v1 ⟨rfl, ht1⟩
        have HT1 := hide ht1
        clear ht1 hX hY hA hM
        have HRd := hide (fun wx => read_own wx HFi.out (by omega))
        obtain ⟨s, hs⟩ : ∃ s, s = strOf (putB l) := ⟨_, rfl⟩
        rw [← hs] at HRd ⊢
        clear hs
        go_wp2_with fail
        refine (HRd.out _).mono ?_
        rintro e v2 ⟨F2, y, rfl, ht2, hx2, hn2, hm2⟩
        have HT2 := hide (HT1.out.trans0 ht2)
        have HPn : Hid (PR w (F2 ++ G) y d l (i + 1) v2) := hide ⟨⟨F2, G, rfl, hx2, HY.out _ HT2.out, fun x hx hx' => by have h1 := hn2 x hx; have h2 := HGl.out x hx'; have h3 := HT1.out.size; omega, hm2⟩, by omega, fun x hx => by
          rcases List.mem_append.1 hx with h | h
          · have h1 := hn2 x h; have h2 := HT1.out.size; have h3 := HPz.out.turn.size; omega
          · exact HGn.out x h, HPz.out.turn.trans0 HT2.out⟩
        have HXn := hide hx2
        clear ht2 hx2 hn2 hm2
        go_wp2_with fail
        refine (agree_any HXn.out (HY.out _ (by repeat first | exact Turn.refl _ _ | exact (show Hid (Turn [] _ _) by assumption).out | refine Turn.drew ?_ | refine Turn.drewN ?_ _ | refine Turn.alloc ?_ _))).mono ?_
        rintro e v3 ⟨rfl, ht3⟩
        have HPn := hide (HPn.out.turn0 ht3 (Nat.le_refl _))
        clear ht3
        have HFn := hide (HFi.out)
        obtain ⟨F5, G5, hS5, hX5, hY5, hA5, hM5⟩ := HPn.out.pair
        have HX5 := hide (fun wx (ht : Turn [] v3 wx) => hX5.turn0 ht)
        have HY5 := hide (fun wx (ht : Turn [] v3 wx) => hY5.turn0 ht)
        clear hX5 hY5 hA5 hM5 hS5
        go_wp2_with fail
        refine (agree_any (HX5.out _ (by repeat first | exact Turn.refl _ _ | exact (show Hid (Turn [] _ _) by assumption).out | refine Turn.drew ?_ | refine Turn.drewN ?_ _ | refine Turn.alloc ?_ _)) (HY5.out _ (by repeat first | exact Turn.refl _ _ | exact (show Hid (Turn [] _ _) by assumption).out | refine Turn.drew ?_ | refine Turn.drewN ?_ _ | refine Turn.alloc ?_ _))).mono ?_
        rintro e we ⟨rfl, hte⟩
        have HPe := hide (HPn.out.turn0 (Turn.pre (w := v3) (by repeat first | exact Turn.refl _ _ | exact (show Hid (Turn [] _ _) by assumption).out | refine Turn.drew ?_ | refine Turn.drewN ?_ _ | refine Turn.alloc ?_ _) hte) (Nat.le_refl _))
        clear hte
        go_wp2_with fail
        exact ⟨⟨i + 1, (F2 ++ G), y, l, by omega, by go_num, rfl, HPe.out, HFn.out⟩, by simp [intOf] <;> omega⟩
    · obtain rfl : i = L.length := by omega
      have HT := hide hP.turn
      clear hP
      go_wp2_with fail
      go_ret
      exact ⟨rfl, HT.out⟩
end Go.Proofs.Ytlnjemdnmndnfaa

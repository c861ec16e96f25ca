/- TimeidxNone, walked. -/
import Derived.Test.YtlnjemdnmndnfaaTBx
import Derived.Test.YtlnjemdnmndnfaaOpens3
namespace Go.Proofs.Ytlnjemdnmndnfaa
set_option linter.unusedVariables false
set_option linter.unusedSimpArgs false
open Go.RowKit K

theorem PR.step0 {w0 wr w2 : World} {S : List Nat} {b d : Nat} {l L : List En} {n : Nat} (h : PR w0 S b d l n wr) (hb : Both S b d L wr w2) (hL : L.length ≤ n) : ∃ S', PR w0 S' b d L n w2 := by
  obtain ⟨S', hp, t2, hS⟩ := hb
  exact ⟨S', hp, hL, fun k hk => by
    rcases hS k hk with h1 | h1
    · exact h.new k h1
    · have := h.turn.size; omega, h.turn.trans t2 (fun x hx => .inr (h.new x hx))⟩
theorem PR.next {w0 wr w2 : World} {S S' : List Nat} {b d : Nat} {l L : List En} {n m : Nat} (h : PR w0 S b d l n wr) (hp : Pair w2 S' b d L) (t2 : Turn S wr w2) (hS : ∀ k ∈ S', k ∈ S ∨ wr.heap.size ≤ k) (hL : L.length ≤ m) : PR w0 S' b d L m w2 :=
  ⟨hp, hL, fun k hk => by
    rcases hS k hk with h1 | h1
    · exact h.new k h1
    · have := h.turn.size; omega, h.turn.trans t2 (fun x hx => .inr (h.new x hx))⟩
theorem appL_len {l : List En} {n : Nat} (h : l.length ≤ n) (e : En) : (appL l e).length ≤ n + 1 := by have := appL_length l e; omega
theorem Both.ne {S : List Nat} {b d g : Nat} {L : List En} {w w' : World} (h : Both S b d L w w') (hS : ∀ x ∈ S, x ≠ g) (hg : g < w.heap.size) : ∃ S', Pair w' S' b d L ∧ Turn S w w' ∧ (∀ k ∈ S', k ∈ S ∨ w.heap.size ≤ k) ∧ ∀ x ∈ S', x ≠ g := by
  obtain ⟨S', hp, t2, hn⟩ := h
  exact ⟨S', hp, t2, hn, fun x hx => by rcases hn x hx with h | h; exact hS x h; omega⟩

set_option maxHeartbeats 8000000 in
set_option maxRecDepth 100000 in
theorem none_any (w : World) (A : Option Addr) (c : Nat) (L : List Op4) (hr : Reads w 4 A L.length (opsV L)) (hsz : L.length * 32 ≤ 140737488351232) (hop : ∀ o ∈ L, opR o) :
    Calls Try.prog 5 #[.slice A L.length c] w (Same (.bool true) w) := by
  have HR := hide hr
  have HOp := hide hop
  clear hr hop
  go_enter Try.func5, Try.ntmps5
  go_wp2_with fail
  refine (finds_any _).mono ?_
  rintro e w1 ⟨rfl, ht1⟩
  have HT1 := hide ht1
  clear ht1
  go_wp2_with fail
  have HX2 : Hid (Ix 45 (w1.alloc (.cells #[.slice none 0 0] 45)) [w1.heap.size] w1.heap.size []) := hide ⟨none, 0, rfl, Blk.new _ _ _, World.ownsRow_nil _ _ _ _, by simp⟩
  have HT2 := hide (HT1.out.alloc (.cells #[.slice none 0 0] 45))
  have hb2 : w.heap.size ≤ w1.heap.size := HT1.out.size
  obtain ⟨b, hb⟩ : ∃ b, b = w1.heap.size := ⟨_, rfl⟩
  rw [← hb] at HX2 hb2 ⊢
  clear hb
  generalize w1.alloc (.cells #[.slice none 0 0] 45) = w2 at *
  refine (rnew _).mono ?_
  rintro e w3 ⟨d, rfl, hd, ht3, hy3⟩
  have HP3 : Hid (PR w ([b] ++ [d]) b d [] 0 w3) := hide ⟨Pair.new HX2.out hy3 ht3 hd, by simp, by
    have := HT2.out.size
    intro k hk
    simp at hk
    omega, HT2.out.trans0 ht3⟩
  clear ht3 hy3 hd hb2
  go_wp2_with fail
  clear HT1 HT2 HX2
  go_loopw [23] (fun i wr => ∃ (k : Nat) (S : List Nat) (l : List En), k ≤ L.length ∧ i = .int .i64 k ∧ PR w S b d l k wr) (fun i _ => L.length - (intOf i).toNat)
  case atStart => exact ⟨0, _, _, Nat.zero_le _, rfl, HP3.out⟩
  case round =>
    clear HP3
    obtain ⟨i, S, l, hi, rfl, hP⟩ := hrel
    by_cases hlt : i < L.length
    · obtain ⟨p0, off, rfl, hg0, hx0, hx1, hx2, hx3⟩ := reads_op (HR.out.turn0 hP.turn) hlt
      have hopi := HOp.out L[i] (List.getElem_mem _)
      obtain ⟨⟨⟨kd, k, a⟩, n⟩, hq⟩ : ∃ q, q = L[i] := ⟨_, rfl⟩
      rw [← hq] at hx0 hx1 hx2 hx3 hopi
      have hkd : 0 ≤ kd ∧ kd ≤ 255 := hopi.1
      clear hq hopi
      have HP := hide hP
      have hlen := hP.len
      have hsz1 : (l.length + 1) * 16 ≤ 140737488355328 := by omega
      clear hP
      go_wp2_with fail
      have HPz : Hid (PR w S b d l i (wr.alloc (.cells #[.int .u8 kd, .int .i64 k, .int .i64 a, .int .i64 n] 47))) := hide (HP.out.turn0 ((Turn.refl _ _).alloc _) (Nat.le_refl _))
      obtain ⟨g, hg⟩ : ∃ g, g = wr.heap.size := ⟨_, rfl⟩
      have HG : Hid (∀ x ∈ S, x ≠ g) := hide (fun x hx => by have := HP.out.pair.lt x hx; omega)
      have HBz : Hid (Blk (wr.alloc (.cells #[.int .u8 kd, .int .i64 k, .int .i64 a, .int .i64 n] 47)) g 47 #[.int .u8 kd, .int .i64 k, .int .i64 a, .int .i64 n]) := hide (by rw [hg]; exact Blk.new _ _ _)
      rw [← hg]
      clear hg hx0 hx1 hx2 hx3 HP
      generalize wr.alloc (.cells #[.int .u8 kd, .int .i64 k, .int .i64 a, .int .i64 n] 47) = wz at *
      have hk0 := HBz.out.cell 0
      have hk1 := HBz.out.cell 1
      have hk2 := HBz.out.cell 2
      have hk3 := HBz.out.cell 3
      have hzz := HBz.out.lt
      obtain ⟨F, G, hS, hX, hY, hA, hM⟩ := HPz.out.pair
      subst hS
      have HX0 := hide hX
      have HY0 := hide hY
      have HX := hide (fun wx (ht : Turn [] wz wx) => hX.turn0 ht)
      have HY := hide (fun wx (ht : Turn [] wz wx) => hY.turn0 ht)
      have HAp := hide hA
      have HMo := hide hM
      have HGF : Hid (g ∉ F) := hide (fun h => HG.out g (by simp [h]) rfl)
      have HGG : Hid (g ∉ G) := hide (fun h => HG.out g (by simp [h]) rfl)
      have HGz := hide hzz
      clear hX hY hA hM hzz
      go_region_held3 (fun w' => w'.cell? ⟨g, 1, none⟩ = some (.int .i64 k) ∧ w'.cell? ⟨g, 2, none⟩ = some (.int .i64 a) ∧ w'.cell? ⟨g, 3, none⟩ = some (.int .i64 n)) (go_keep)
        (first
        | (go_at_call 12; refine ((app_at (l := l) ?_ k a hsz1).mono fun e w1 h => (h : App 45 (appE l (k, a)) (appL l (k, a)) F b _ e w1)).mono ?_; (exact HX.out _ (by repeat first | exact Turn.refl _ _ | exact (show Hid (Turn [] _ _) by assumption).out | refine Turn.drew ?_ | refine Turn.drewN ?_ _ | refine Turn.alloc ?_ _)); rintro e va ⟨F1, rfl, ht1, hx1, hF1⟩; have HBa := hide (Blk.turn (by repeat first | exact Blk.new _ _ _ | exact (show Hid (Blk _ _ _ _) by assumption).out | refine Blk.drew ?_ | refine Blk.drewN ?_ _ | refine Blk.alloc ?_ _) ht1 HGF.out); have HYa := hide (fun wx (ht : Turn [] va wx) => ((HY.out _ (by repeat first | exact Turn.refl _ _ | exact (show Hid (Turn [] _ _) by assumption).out | refine Turn.drew ?_ | refine Turn.drewN ?_ _ | refine Turn.alloc ?_ _)).turn ht1 (fun k hk hk' => HAp.out k hk' hk)).turn0 ht); have HAa1 := hide ht1; have HAa2 := hide hx1; have HAa3 := hide hF1; clear ht1 hx1 hF1; have hk1 := HBa.out.cell 1; have hk2 := HBa.out.cell 2; have hk3 := HBa.out.cell 3; have hzz := HBa.out.lt)
        | (go_at_call 13; refine ((rapp (l := l) ?_ k a hsz1).mono fun e w1 h => (h : App 34 (appE l (k, a)) (appL l (k, a)) G d _ e w1)).mono ?_; (exact HYa.out _ (by repeat first | exact Turn.refl _ _ | exact (show Hid (Turn [] _ _) by assumption).out | refine Turn.drew ?_ | refine Turn.drewN ?_ _ | refine Turn.alloc ?_ _)); rintro e vb ⟨G1, rfl, ht1, hx1, hF1⟩; have HBb := hide (Blk.turn (by repeat first | exact Blk.new _ _ _ | exact (show Hid (Blk _ _ _ _) by assumption).out | refine Blk.drew ?_ | refine Blk.drewN ?_ _ | refine Blk.alloc ?_ _) ht1 HGG.out); have HBo1 := hide (both_xy HX0.out HY0.out HAp.out (mono_appL HMo.out (k, a)) (by repeat first | exact Turn.refl _ _ | exact (show Hid (Turn [] _ _) by assumption).out | refine Turn.drew ?_ | refine Turn.drewN ?_ _ | refine Turn.alloc ?_ _) HAa1.out HAa2.out HAa3.out (by repeat first | exact Turn.refl _ _ | exact (show Hid (Turn [] _ _) by assumption).out | refine Turn.drew ?_ | refine Turn.drewN ?_ _ | refine Turn.alloc ?_ _) ht1 hx1 hF1 (Turn.refl [] _)); obtain ⟨S1, hp1, t1, hn1, hg1⟩ := HBo1.out.ne HG.out HGz.out; have HPb := hide hp1; have HTb := hide t1; have HNb := hide hn1; have HGb := hide hg1; obtain ⟨F2, G2, hS2, hX2, hY2, hA2, hM2⟩ := hp1; subst hS2; have HX02 := hide hX2; have HY02 := hide hY2; have HX2 := hide (fun wx (ht : Turn [] vb wx) => hX2.turn0 ht); have HY2 := hide (fun wx (ht : Turn [] vb wx) => hY2.turn0 ht); have HAp2 := hide hA2; have HMo2 := hide hM2; have HGF2 : Hid (g ∉ F2) := hide (fun h => HGb.out g (by simp [h]) rfl); have HGG2 : Hid (g ∉ G2) := hide (fun h => HGb.out g (by simp [h]) rfl); have HGzb := hide HBb.out.lt; clear ht1 hx1 hF1 t1 hn1 hg1 hX2 hY2 hA2 hM2; have hk1 := HBb.out.cell 1; have hk2 := HBb.out.cell 2; have hk3 := HBb.out.cell 3; have hzz := HBb.out.lt)
        | (go_at_call 16; refine ((cut_at (l := appL l (k, a)) ?_ n).mono fun e w1 h => (h : App 45 (cutE (appL l (k, a)) n) (cutL (appL l (k, a)) n) F2 b _ e w1)).mono ?_; (exact HX2.out _ (by repeat first | exact Turn.refl _ _ | exact (show Hid (Turn [] _ _) by assumption).out | refine Turn.drew ?_ | refine Turn.drewN ?_ _ | refine Turn.alloc ?_ _)); rintro e vc ⟨F1, rfl, ht1, hx1, hF1⟩; have HBc := hide (Blk.turn (by repeat first | exact Blk.new _ _ _ | exact (show Hid (Blk _ _ _ _) by assumption).out | refine Blk.drew ?_ | refine Blk.drewN ?_ _ | refine Blk.alloc ?_ _) ht1 HGF2.out); have HYc := hide (fun wx (ht : Turn [] vc wx) => ((HY2.out _ (by repeat first | exact Turn.refl _ _ | exact (show Hid (Turn [] _ _) by assumption).out | refine Turn.drew ?_ | refine Turn.drewN ?_ _ | refine Turn.alloc ?_ _)).turn ht1 (fun k hk hk' => HAp2.out k hk' hk)).turn0 ht); have HAc1 := hide ht1; have HAc2 := hide hx1; have HAc3 := hide hF1; clear ht1 hx1 hF1; have hk1 := HBc.out.cell 1; have hk2 := HBc.out.cell 2; have hk3 := HBc.out.cell 3; have hzz := HBc.out.lt)
        | (go_at_call 17; refine ((rcut (l := appL l (k, a)) ?_ n).mono fun e w1 h => (h : App 34 (cutE (appL l (k, a)) n) (cutL (appL l (k, a)) n) G2 d _ e w1)).mono ?_; (exact HYc.out _ (by repeat first | exact Turn.refl _ _ | exact (show Hid (Turn [] _ _) by assumption).out | refine Turn.drew ?_ | refine Turn.drewN ?_ _ | refine Turn.alloc ?_ _)); rintro e vd ⟨G3, rfl, ht1, hx1, hF1⟩; have HBd := hide (Blk.turn (by repeat first | exact Blk.new _ _ _ | exact (show Hid (Blk _ _ _ _) by assumption).out | refine Blk.drew ?_ | refine Blk.drewN ?_ _ | refine Blk.alloc ?_ _) ht1 HGG2.out); have HBo2 := hide (both_xy HX02.out HY02.out HAp2.out (mono_cutL HMo2.out n) (by repeat first | exact Turn.refl _ _ | exact (show Hid (Turn [] _ _) by assumption).out | refine Turn.drew ?_ | refine Turn.drewN ?_ _ | refine Turn.alloc ?_ _) HAc1.out HAc2.out HAc3.out (by repeat first | exact Turn.refl _ _ | exact (show Hid (Turn [] _ _) by assumption).out | refine Turn.drew ?_ | refine Turn.drewN ?_ _ | refine Turn.alloc ?_ _) ht1 hx1 hF1 (Turn.refl [] _)); obtain ⟨S3, hp3, t3, hn3, hg3⟩ := HBo2.out.ne HGb.out HGzb.out; have HPd := hide (fun wx (ht : Turn [] vd wx) => hp3.turn0 ht); have HPn : Hid (PR w S3 b d (cutL (appL l (k, a)) n) (i + 1) vd) := hide ((HPz.out.next HPb.out HTb.out HNb.out (appL_len hlen _)).next hp3 t3 hn3 (Nat.le_trans (cutL_length _ _) (appL_len hlen _))); have HGd := hide hg3; obtain ⟨F4, G4, hS4, hX4, hY4, hA4, hM4⟩ := hp3; have HX4 := hide (fun wx (ht : Turn [] vd wx) => hX4.turn0 ht); have HY4 := hide (fun wx (ht : Turn [] vd wx) => hY4.turn0 ht); clear ht1 hx1 hF1 t3 hn3 hg3 hX4 hY4 hA4 hM4 hS4; have hk1 := HBd.out.cell 1; have hk2 := HBd.out.cell 2; have hk3 := HBd.out.cell 3; have hzz := HBd.out.lt)
        | (go_at_call 18; refine (agree_any (F := F4) (G := G4) (l := cutL (appL l (k, a)) n) ?_ ?_).mono ?_; (exact HX4.out _ (by repeat first | exact Turn.refl _ _ | exact (show Hid (Turn [] _ _) by assumption).out | refine Turn.drew ?_ | refine Turn.drewN ?_ _ | refine Turn.alloc ?_ _)); (exact HY4.out _ (by repeat first | exact Turn.refl _ _ | exact (show Hid (Turn [] _ _) by assumption).out | refine Turn.drew ?_ | refine Turn.drewN ?_ _ | refine Turn.alloc ?_ _)); rintro e ve ⟨rfl, ht1⟩; have HBe := hide (Blk.turn (by repeat first | exact Blk.new _ _ _ | exact (show Hid (Blk _ _ _ _) by assumption).out | refine Blk.drew ?_ | refine Blk.drewN ?_ _ | refine Blk.alloc ?_ _) ht1 (by simp)); have HTe := hide (Turn.pre (w := vd) (by repeat first | exact Turn.refl _ _ | exact (show Hid (Turn [] _ _) by assumption).out | refine Turn.drew ?_ | refine Turn.drewN ?_ _ | refine Turn.alloc ?_ _) ht1); clear ht1; have hk1 := HBe.out.cell 1; have hk2 := HBe.out.cell 2; have hk3 := HBe.out.cell 3; have hzz := HBe.out.lt)
        | (go_at_call 14; refine (found_any (S := S3) (l := cutL (appL l (k, a)) n) ?_ k).mono ?_; (exact HPd.out _ (by repeat first | exact Turn.refl _ _ | exact (show Hid (Turn [] _ _) by assumption).out | refine Turn.drew ?_ | refine Turn.drewN ?_ _ | refine Turn.alloc ?_ _)); rintro e vf ⟨rfl, ht1⟩; have HBf := hide (Blk.turn (by repeat first | exact Blk.new _ _ _ | exact (show Hid (Blk _ _ _ _) by assumption).out | refine Blk.drew ?_ | refine Blk.drewN ?_ _ | refine Blk.alloc ?_ _) ht1 (by simp)); have HTf := hide (Turn.pre (w := vd) (by repeat first | exact Turn.refl _ _ | exact (show Hid (Turn [] _ _) by assumption).out | refine Turn.drew ?_ | refine Turn.drewN ?_ _ | refine Turn.alloc ?_ _) ht1); clear ht1; have hk1 := HBf.out.cell 1; have hk2 := HBf.out.cell 2; have hk3 := HBf.out.cell 3; have hzz := HBf.out.lt))
      have HPf : Hid (PR w S3 b d (cutL (appL l (k, a)) n) (i + 1) vf) := hide (HPn.out.turn0 (by repeat first | exact Turn.refl _ _ | exact (show Hid (Turn [] _ _) by assumption).out | refine Turn.drew ?_ | refine Turn.drewN ?_ _ | refine Turn.alloc ?_ _) (Nat.le_refl _))
      have HGf := hide hzz
      clear HPn HTf HTe HBe HX4 HY4 HGd HPd HBo2 HBd HAc1 HAc2 HAc3 HYc HBc HGzb HGG2 HGF2 HMo2 HAp2 HX2 HY2 HX02 HY02 HGb HNb HPb HTb HBo1 HBb HAa1 HAa2 HAa3 HYa HBa HGz HGG HGF HMo HAp HX HY HX0 HY0 HPz HG hk0 HBz
      obtain ⟨W, hW, h12⟩ : ∃ W : Int, (if a < 0 then (1 : Int) else 4) = W ∧ Hid (∀ wx, Calls Try.prog 12 #[.pointer none, .agg #[.int .i64 k, .int .i64 a]] wx (Same (.int .i64 W) wx)) := ⟨_, rfl, hide (fun wx => app_nil wx k a)⟩
      obtain ⟨q, hq1, hq2⟩ : ∃ q : Bool, (cutE [] n == 0) = q ∧ (n == 0) = q := ⟨_, by
        unfold cutE
        by_cases h : n = 0
        · subst h; rfl
        · rw [if_neg (by simp; omega)]; simp [h], rfl⟩
      have H22 : Hid (∀ wx, Calls Try.prog 22 #[.pointer none] wx (Same (.string ⟨#[]⟩) wx)) := hide (fun wx => bytes_nil wx)
      by_cases ha : a < 0
      · rw [if_pos ha] at hW
        subst hW
        go_wp2_with fail
        refine (find_nil _ _).mono ?_
        rintro e x1 ⟨rfl, ht1⟩
        have HG1 := hide (HBf.out.turn ht1 (by simp))
        have HT1 := hide (Turn.pre (w := vf) (by repeat first | exact Turn.refl _ _ | exact (show Hid (Turn [] _ _) by assumption).out | refine Turn.drew ?_ | refine Turn.drewN ?_ _ | refine Turn.alloc ?_ _) ht1)
        have hk1 := HG1.out.cell 1
        have hk2 := HG1.out.cell 2
        have hk3 := HG1.out.cell 3
        have hzz := HG1.out.lt
        clear ht1
        go_wp2_with fail
        refine (entry_nil _ _).mono ?_
        rintro e x2 ⟨rfl, ht1⟩
        have HG2 := hide (Blk.turn (HG1.out.alloc _) ht1 (by simp))
        have HE2 := hide (Blk.turn (Blk.new x1 29 #[.int .i64 0, .int .i64 0]) ht1 (by simp))
        have HT2 := hide (Turn.pre (w := vf) (by repeat first | exact Turn.refl _ _ | exact (show Hid (Turn [] _ _) by assumption).out | refine Turn.drew ?_ | refine Turn.drewN ?_ _ | refine Turn.alloc ?_ _) ht1)
        have hk1 := HG2.out.cell 1
        have hk2 := HG2.out.cell 2
        have hk3 := HG2.out.cell 3
        have hzz := HG2.out.lt
        clear ht1
        go_wp2_with fail
        refine (last_nil _).mono ?_
        rintro e x3 ⟨rfl, ht1⟩
        have HG3 := hide (Blk.turn (HG2.out.alloc _) ht1 (by simp))
        have HE3 := hide (Blk.turn (HE2.out.alloc _) ht1 (by simp))
        have HF3 := hide (Blk.turn (Blk.new x2 29 #[.int .i64 0, .int .i64 0]) ht1 (by simp))
        have HT3 := hide (Turn.pre (w := vf) (by repeat first | exact Turn.refl _ _ | exact (show Hid (Turn [] _ _) by assumption).out | refine Turn.drew ?_ | refine Turn.drewN ?_ _ | refine Turn.alloc ?_ _) ht1)
        clear ht1 hk1 hk2 hk3 hzz
        have hk1 := HG3.out.cell 1
        have hk2 := HG3.out.cell 2
        have hk3 := HG3.out.cell 3
        have he0 := HE3.out.cell 0
        have he1 := HE3.out.cell 1
        have hf0 := HF3.out.cell 0
        have hf1 := HF3.out.cell 1
        have hzz := HG3.out.lt
        have hze := HE3.out.lt
        have hzf := HF3.out.lt
        go_wp2_with fail
        go_region_held3 (fun w' => w'.cell? ⟨g, 1, none⟩ = some (.int .i64 k) ∧ w'.cell? ⟨g, 2, none⟩ = some (.int .i64 a) ∧ w'.cell? ⟨g, 3, none⟩ = some (.int .i64 n) ∧ w'.cell? ⟨x1.heap.size, 0, none⟩ = some (.int .i64 0) ∧ w'.cell? ⟨x1.heap.size, 1, none⟩ = some (.int .i64 0) ∧ w'.cell? ⟨x2.heap.size, 0, none⟩ = some (.int .i64 0) ∧ w'.cell? ⟨x2.heap.size, 1, none⟩ = some (.int .i64 0) ∧ w'.cell? ⟨x3.heap.size, 0, none⟩ = some (.int .i64 0) ∧ w'.cell? ⟨x3.heap.size, 1, none⟩ = some (.int .i64 0)) (go_keep)
          (first
          | (go_at_call 12; refine (h12.out _).mono ?_; rintro e x4 ⟨rfl, ht1⟩; have HG4 : Hid (Blk x4 g 47 #[.int .u8 kd, .int .i64 k, .int .i64 a, .int .i64 n]) := hide (Blk.turn (by repeat first | exact HG3.out | exact Blk.new _ _ _ | refine Blk.drew ?_ | refine Blk.drewN ?_ _ | refine Blk.alloc ?_ _) ht1 (by simp)); have HE4 : Hid (Blk x4 x1.heap.size 29 #[.int .i64 0, .int .i64 0]) := hide (Blk.turn (by repeat first | exact HE3.out | exact Blk.new _ _ _ | refine Blk.drew ?_ | refine Blk.drewN ?_ _ | refine Blk.alloc ?_ _) ht1 (by simp)); have HF4 : Hid (Blk x4 x2.heap.size 29 #[.int .i64 0, .int .i64 0]) := hide (Blk.turn (by repeat first | exact HF3.out | exact Blk.new _ _ _ | refine Blk.drew ?_ | refine Blk.drewN ?_ _ | refine Blk.alloc ?_ _) ht1 (by simp)); have HH4 : Hid (Blk x4 x3.heap.size 29 #[.int .i64 0, .int .i64 0]) := hide (Blk.turn (by repeat first | exact HH3.out | exact Blk.new _ _ _ | refine Blk.drew ?_ | refine Blk.drewN ?_ _ | refine Blk.alloc ?_ _) ht1 (by simp)); have HT4 := hide (Turn.pre (w := vf) (by repeat first | exact Turn.refl _ _ | exact (show Hid (Turn [] _ _) by assumption).out | refine Turn.drew ?_ | refine Turn.drewN ?_ _ | refine Turn.alloc ?_ _) ht1); clear ht1; have hk1 := HG4.out.cell 1; have hk2 := HG4.out.cell 2; have hk3 := HG4.out.cell 3; have he0 := HE4.out.cell 0; have he1 := HE4.out.cell 1; have hf0 := HF4.out.cell 0; have hf1 := HF4.out.cell 1; have hh0 := HH4.out.cell 0; have hh1 := HH4.out.cell 1)
          | (go_at_call 16; refine (cut_nil _ _).mono ?_; rintro e w' ⟨rfl, rfl⟩)
          | (go_at_call 21; refine (len_nil _).mono ?_; rintro e w' ⟨rfl, rfl⟩)
          | (go_at_call 22; refine (H22.out _).mono ?_; rintro e x5 ⟨rfl, ht1⟩; have HG5 : Hid (Blk x5 g 47 #[.int .u8 kd, .int .i64 k, .int .i64 a, .int .i64 n]) := hide (Blk.turn (by repeat first | exact HG4.out | exact Blk.new _ _ _ | refine Blk.drew ?_ | refine Blk.drewN ?_ _ | refine Blk.alloc ?_ _) ht1 (by simp)); have HE5 : Hid (Blk x5 x1.heap.size 29 #[.int .i64 0, .int .i64 0]) := hide (Blk.turn (by repeat first | exact HE4.out | exact Blk.new _ _ _ | refine Blk.drew ?_ | refine Blk.drewN ?_ _ | refine Blk.alloc ?_ _) ht1 (by simp)); have HF5 : Hid (Blk x5 x2.heap.size 29 #[.int .i64 0, .int .i64 0]) := hide (Blk.turn (by repeat first | exact HF4.out | exact Blk.new _ _ _ | refine Blk.drew ?_ | refine Blk.drewN ?_ _ | refine Blk.alloc ?_ _) ht1 (by simp)); have HH5 : Hid (Blk x5 x3.heap.size 29 #[.int .i64 0, .int .i64 0]) := hide (Blk.turn (by repeat first | exact HH4.out | exact Blk.new _ _ _ | refine Blk.drew ?_ | refine Blk.drewN ?_ _ | refine Blk.alloc ?_ _) ht1 (by simp)); have HT5 := hide (Turn.pre (w := vf) (by repeat first | exact Turn.refl _ _ | exact (show Hid (Turn [] _ _) by assumption).out | refine Turn.drew ?_ | refine Turn.drewN ?_ _ | refine Turn.alloc ?_ _) ht1); clear ht1; have hk1 := HG5.out.cell 1; have hk2 := HG5.out.cell 2; have hk3 := HG5.out.cell 3; have he0 := HE5.out.cell 0; have he1 := HE5.out.cell 1; have hf0 := HF5.out.cell 0; have hf1 := HF5.out.cell 1; have hh0 := HH5.out.cell 0; have hh1 := HH5.out.cell 1)
          | (go_at_call 23; refine (clone_nil _).mono ?_; rintro e w' ⟨rfl, rfl⟩))
        go_wp2_with fail
        exact ⟨⟨i + 1, S3, _, by omega, by go_num, HPf.out.turn0 (by repeat first | exact Turn.refl _ _ | exact (show Hid (Turn [] _ _) by assumption).out | refine Turn.drew ?_ | refine Turn.drewN ?_ _ | refine Turn.alloc ?_ _) (Nat.le_refl _)⟩, by simp [intOf] <;> omega⟩
      · rw [if_neg ha] at hW
        subst hW
        go_wp2_with fail
        refine (find_nil _ _).mono ?_
        rintro e x1 ⟨rfl, ht1⟩
        have HG1 := hide (HBf.out.turn ht1 (by simp))
        have HT1 := hide (Turn.pre (w := vf) (by repeat first | exact Turn.refl _ _ | exact (show Hid (Turn [] _ _) by assumption).out | refine Turn.drew ?_ | refine Turn.drewN ?_ _ | refine Turn.alloc ?_ _) ht1)
        have hk1 := HG1.out.cell 1
        have hk2 := HG1.out.cell 2
        have hk3 := HG1.out.cell 3
        have hzz := HG1.out.lt
        clear ht1
        go_wp2_with fail
        refine (entry_nil _ _).mono ?_
        rintro e x2 ⟨rfl, ht1⟩
        have HG2 := hide (Blk.turn (HG1.out.alloc _) ht1 (by simp))
        have HE2 := hide (Blk.turn (Blk.new x1 29 #[.int .i64 0, .int .i64 0]) ht1 (by simp))
        have HT2 := hide (Turn.pre (w := vf) (by repeat first | exact Turn.refl _ _ | exact (show Hid (Turn [] _ _) by assumption).out | refine Turn.drew ?_ | refine Turn.drewN ?_ _ | refine Turn.alloc ?_ _) ht1)
        have hk1 := HG2.out.cell 1
        have hk2 := HG2.out.cell 2
        have hk3 := HG2.out.cell 3
        have hzz := HG2.out.lt
        clear ht1
        go_wp2_with fail
        refine (last_nil _).mono ?_
        rintro e x3 ⟨rfl, ht1⟩
        have HG3 := hide (Blk.turn (HG2.out.alloc _) ht1 (by simp))
        have HE3 := hide (Blk.turn (HE2.out.alloc _) ht1 (by simp))
        have HF3 := hide (Blk.turn (Blk.new x2 29 #[.int .i64 0, .int .i64 0]) ht1 (by simp))
        have HT3 := hide (Turn.pre (w := vf) (by repeat first | exact Turn.refl _ _ | exact (show Hid (Turn [] _ _) by assumption).out | refine Turn.drew ?_ | refine Turn.drewN ?_ _ | refine Turn.alloc ?_ _) ht1)
        clear ht1 hk1 hk2 hk3 hzz
        have hk1 := HG3.out.cell 1
        have hk2 := HG3.out.cell 2
        have hk3 := HG3.out.cell 3
        have he0 := HE3.out.cell 0
        have he1 := HE3.out.cell 1
        have hf0 := HF3.out.cell 0
        have hf1 := HF3.out.cell 1
        have hzz := HG3.out.lt
        have hze := HE3.out.lt
        have hzf := HF3.out.lt
        go_wp2_with fail
        go_region_held3 (fun w' => w'.cell? ⟨g, 1, none⟩ = some (.int .i64 k) ∧ w'.cell? ⟨g, 2, none⟩ = some (.int .i64 a) ∧ w'.cell? ⟨g, 3, none⟩ = some (.int .i64 n) ∧ w'.cell? ⟨x1.heap.size, 0, none⟩ = some (.int .i64 0) ∧ w'.cell? ⟨x1.heap.size, 1, none⟩ = some (.int .i64 0) ∧ w'.cell? ⟨x2.heap.size, 0, none⟩ = some (.int .i64 0) ∧ w'.cell? ⟨x2.heap.size, 1, none⟩ = some (.int .i64 0) ∧ w'.cell? ⟨x3.heap.size, 0, none⟩ = some (.int .i64 0) ∧ w'.cell? ⟨x3.heap.size, 1, none⟩ = some (.int .i64 0)) (go_keep)
          (first
          | (go_at_call 12; refine (h12.out _).mono ?_; rintro e x4 ⟨rfl, ht1⟩; have HG4 : Hid (Blk x4 g 47 #[.int .u8 kd, .int .i64 k, .int .i64 a, .int .i64 n]) := hide (Blk.turn (by repeat first | exact HG3.out | exact Blk.new _ _ _ | refine Blk.drew ?_ | refine Blk.drewN ?_ _ | refine Blk.alloc ?_ _) ht1 (by simp)); have HE4 : Hid (Blk x4 x1.heap.size 29 #[.int .i64 0, .int .i64 0]) := hide (Blk.turn (by repeat first | exact HE3.out | exact Blk.new _ _ _ | refine Blk.drew ?_ | refine Blk.drewN ?_ _ | refine Blk.alloc ?_ _) ht1 (by simp)); have HF4 : Hid (Blk x4 x2.heap.size 29 #[.int .i64 0, .int .i64 0]) := hide (Blk.turn (by repeat first | exact HF3.out | exact Blk.new _ _ _ | refine Blk.drew ?_ | refine Blk.drewN ?_ _ | refine Blk.alloc ?_ _) ht1 (by simp)); have HH4 : Hid (Blk x4 x3.heap.size 29 #[.int .i64 0, .int .i64 0]) := hide (Blk.turn (by repeat first | exact HH3.out | exact Blk.new _ _ _ | refine Blk.drew ?_ | refine Blk.drewN ?_ _ | refine Blk.alloc ?_ _) ht1 (by simp)); have HT4 := hide (Turn.pre (w := vf) (by repeat first | exact Turn.refl _ _ | exact (show Hid (Turn [] _ _) by assumption).out | refine Turn.drew ?_ | refine Turn.drewN ?_ _ | refine Turn.alloc ?_ _) ht1); clear ht1; have hk1 := HG4.out.cell 1; have hk2 := HG4.out.cell 2; have hk3 := HG4.out.cell 3; have he0 := HE4.out.cell 0; have he1 := HE4.out.cell 1; have hf0 := HF4.out.cell 0; have hf1 := HF4.out.cell 1; have hh0 := HH4.out.cell 0; have hh1 := HH4.out.cell 1)
          | (go_at_call 16; refine (cut_nil _ _).mono ?_; rintro e w' ⟨rfl, rfl⟩)
          | (go_at_call 21; refine (len_nil _).mono ?_; rintro e w' ⟨rfl, rfl⟩)
          | (go_at_call 22; refine (H22.out _).mono ?_; rintro e x5 ⟨rfl, ht1⟩; have HG5 : Hid (Blk x5 g 47 #[.int .u8 kd, .int .i64 k, .int .i64 a, .int .i64 n]) := hide (Blk.turn (by repeat first | exact HG4.out | exact Blk.new _ _ _ | refine Blk.drew ?_ | refine Blk.drewN ?_ _ | refine Blk.alloc ?_ _) ht1 (by simp)); have HE5 : Hid (Blk x5 x1.heap.size 29 #[.int .i64 0, .int .i64 0]) := hide (Blk.turn (by repeat first | exact HE4.out | exact Blk.new _ _ _ | refine Blk.drew ?_ | refine Blk.drewN ?_ _ | refine Blk.alloc ?_ _) ht1 (by simp)); have HF5 : Hid (Blk x5 x2.heap.size 29 #[.int .i64 0, .int .i64 0]) := hide (Blk.turn (by repeat first | exact HF4.out | exact Blk.new _ _ _ | refine Blk.drew ?_ | refine Blk.drewN ?_ _ | refine Blk.alloc ?_ _) ht1 (by simp)); have HH5 : Hid (Blk x5 x3.heap.size 29 #[.int .i64 0, .int .i64 0]) := hide (Blk.turn (by repeat first | exact HH4.out | exact Blk.new _ _ _ | refine Blk.drew ?_ | refine Blk.drewN ?_ _ | refine Blk.alloc ?_ _) ht1 (by simp)); have HT5 := hide (Turn.pre (w := vf) (by repeat first | exact Turn.refl _ _ | exact (show Hid (Turn [] _ _) by assumption).out | refine Turn.drew ?_ | refine Turn.drewN ?_ _ | refine Turn.alloc ?_ _) ht1); clear ht1; have hk1 := HG5.out.cell 1; have hk2 := HG5.out.cell 2; have hk3 := HG5.out.cell 3; have he0 := HE5.out.cell 0; have he1 := HE5.out.cell 1; have hf0 := HF5.out.cell 0; have hf1 := HF5.out.cell 1; have hh0 := HH5.out.cell 0; have hh1 := HH5.out.cell 1)
          | (go_at_call 23; refine (clone_nil _).mono ?_; rintro e w' ⟨rfl, rfl⟩))
        go_wp2_with fail
        exact ⟨⟨i + 1, S3, _, by omega, by go_num, HPf.out.turn0 (by repeat first | exact Turn.refl _ _ | exact (show Hid (Turn [] _ _) by assumption).out | refine Turn.drew ?_ | refine Turn.drewN ?_ _ | refine Turn.alloc ?_ _) (Nat.le_refl _)⟩, by simp [intOf] <;> omega⟩
    · obtain rfl : i = L.length := by omega
      have HT := hide hP.turn
      clear hP
      go_wp2_with fail
      go_ret
      exact ⟨rfl, HT.out⟩
end Go.Proofs.Ytlnjemdnmndnfaa

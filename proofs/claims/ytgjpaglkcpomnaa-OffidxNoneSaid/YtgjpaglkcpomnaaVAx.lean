/- The document's Read, walked. -/
import Derived.Test.YtgjpaglkcpomnaaV9x
import Derived.Test.YtgjpaglkcpomnaaRow
namespace Go.Proofs.Ytgjpaglkcpomnaa
set_option linter.unusedVariables false
set_option linter.unusedSimpArgs false
open Go.RowKit K

set_option maxHeartbeats 800000 in
theorem rback (w : World) (t : ByteArray) (ht : t.size = 8) : Calls Try.prog 54 #[.string t] w fun e w' => e = .returned (.int .i64 (Wire.rd8 t.data.toList)) ∧ w = w' := by
  have htl : t.size ≤ 9223372036854775807 := by omega
  have HT := hide ht
  clear ht
  go_enter Try.func54, Try.ntmps54
  go_wp2_with fail
  go_loop [3, 4] (fun v i => ∃ k : Nat, k ≤ 8 ∧ i = .int .i64 k ∧ v = .int .u64 (Wire.beVal (t.data.toList.take k))) (fun _ i => 8 - (intOf i).toNat)
  case atStart => exact ⟨0, by omega, rfl, rfl⟩
  case round =>
    obtain ⟨k, hk, rfl, rfl⟩ := hrel
    by_cases hkn : k < 8
    · have hlt : k < t.size := by have := HT.out; omega
      have hb := Wire.beVal_lt (t.data.toList.take k)
      have hl : (t.data.toList.take k).length ≤ 7 := by have := List.length_take_le k t.data.toList; omega
      have hb2 : Wire.beVal (t.data.toList.take k) < 72057594037927936 := Nat.lt_of_lt_of_le hb (Nat.le_trans (Nat.pow_le_pow_right (by omega) hl) (by decide))
      have hsn : Hid (Wire.beVal (t.data.toList.take (k + 1)) = Wire.beVal (t.data.toList.take k) * 256 + t[k].toNat) := by rw [Wire.str_take t k hlt]; exact Wire.beVal_snoc _ _
      obtain ⟨v, hv⟩ : ∃ v, v = Wire.beVal (t.data.toList.take k) := ⟨_, rfl⟩
      rw [← hv] at hb2 hsn ⊢
      clear hv hb hl
      have hk' : (k : Int) < 8 := by omega
      have hcv : IntKind.u64.wrap (t[k].toNat : Int) = (t[k].toNat : Int) := by
        have := t[k].toNat_lt
        show (t[k].toNat : Int) % 18446744073709551616 = _
        omega
      have hadd : IntKind.u64.wrap ((v : Int) * 256 + (t[k].toNat : Int)) = (v : Int) * 256 + (t[k].toNat : Int) := by
        have := t[k].toNat_lt
        show ((v : Int) * 256 + (t[k].toNat : Int)) % 18446744073709551616 = _
        omega
      go_wp2
      exact ⟨⟨k + 1, by omega, by go_num, by rw [hsn.out]; go_num⟩, by simp [intOf]; omega⟩
    · obtain rfl : k = 8 := by omega
      go_wp2
      go_ret
      have e : t.data.toList.take 8 = t.data.toList := List.take_of_length_le (by rw [Array.length_toList]; exact Nat.le_of_eq HT.out)
      refine ⟨?_, rfl⟩
      rw [e]
      rfl
set_option maxHeartbeats 1600000 in
set_option maxRecDepth 100000 in
theorem rread_no (w : World) (s : ByteArray) (hs : s.size ≤ 140737488351232) (h : s.size % 16 ≠ 0) : Calls Try.prog 27 #[.string s] w (ReadIs [] 29 w) := by
  have hm : ((s.size : Int) % 16 == 0) = false := by rw [beq_eq_false_iff_ne]; omega
  go_enter Try.func27, Try.ntmps27
  go_wp2_with fail
  go_ret2
  exact ⟨none, 0, rfl, Turn.refl _ _, World.ownsRow_nil _ _ _ _, by simp [blockOf]⟩
set_option maxHeartbeats 4000000 in
set_option maxRecDepth 100000 in
theorem rread_yes (w : World) (s : ByteArray) (n : Nat) (hn : s.size = 16 * n) (hs : s.size ≤ 140737488351232) : Calls Try.prog 27 #[.string s] w (ReadIs (readL n s.data.toList) 0 w) := by
  obtain ⟨i0, hi0, hz0, hz1, hz2⟩ := info_parts info30
  have hm : ((s.size : Int) % 16 == 0) = true := by rw [beq_iff_eq]; omega
  have hm2 : ((s.size : Int) % 16 != 0) = false := by rw [bne_eq_false_iff_eq]; omega
  have HN := hide hn
  clear hn
  go_enter Try.func27, Try.ntmps27
  go_wp2_with fail
  clear hm hm2
  go_loopw [4, 5] (fun v i wr => ∃ (k : Nat) (A : Option Addr) (c : Nat), k ≤ n ∧ i = .int .i64 ((16 * k : Nat) : Int) ∧ v = .slice A k c ∧ OwnR w 30 2 A k c (ents (readL k s.data.toList)) wr) (fun _ i _ => s.size - (intOf i).toNat)
  case atStart => exact ⟨0, none, 0, Nat.zero_le _, rfl, rfl, OwnR.none_ _ _ _ (Turn.refl _ _)⟩
  case round =>
    obtain ⟨k, A, c, hk, rfl, rfl, ho⟩ := hrel
    have HO := hide ho
    clear ho
    obtain ⟨i, hi⟩ : ∃ i, i = 16 * k := ⟨_, rfl⟩
    rw [← hi]
    by_cases hlt : k < n
    · have hi16 : i + 16 ≤ s.size := by have := HN.out; omega
      have hp0 : (i : Int) < (s.size : Int) := by omega
      have hp1 : (0 : Int) ≤ (i : Int) := by omega
      have hp2 : (i : Int) + 8 ≤ (s.size : Int) := by omega
      have hp3 : (i : Int) + 16 ≤ (s.size : Int) := by omega
      have hp4 : (i : Int) ≤ (i : Int) + 8 := by omega
      have hp5 : (i : Int) + 8 ≤ (i : Int) + 16 := by omega
      have hp6 : (0 : Int) ≤ (i : Int) + 8 := by omega
      have hp7 : (0 : Int) ≤ (i : Int) + 16 := by omega
      have hw8 : IntKind.i64.wrap ((i : Int) + 8) = (i : Int) + 8 := by rw [IntKind.wrap_i64]; omega
      have hw16 : IntKind.i64.wrap ((i : Int) + 16) = (i : Int) + 16 := by rw [IntKind.wrap_i64]; omega
      have h8 : ((i : Int) + 8).toNat = i + 8 := by omega
      have h16 : ((i : Int) + 16).toNat = i + 16 := by omega
      have HS1 := hide (Wire.str_cut s i 8 (by omega))
      have HS2 := hide (Wire.str_cut s (i + 8) 8 (by omega))
      obtain ⟨x, hx⟩ : ∃ x, x = Wire.rd8 (s.extract i (i + 8)).data.toList := ⟨_, rfl⟩
      obtain ⟨y, hy⟩ : ∃ y, y = Wire.rd8 (s.extract (i + 8) (i + 8 + 8)).data.toList := ⟨_, rfl⟩
      have HS : Hid (readL (k + 1) s.data.toList = readL k s.data.toList ++ [(x, y)]) := hide (by rw [readL_snoc, hx, hy, HS1.out.1, HS2.out.1, hi])
      have HB1 : Hid (∀ wx, Calls Try.prog 54 #[.string (s.extract i (i + 8))] wx fun e w' => e = .returned (.int .i64 x) ∧ wx = w') := hide (fun wx => by rw [hx]; exact rback wx _ HS1.out.2)
      have HB2 : Hid (∀ wx, Calls Try.prog 54 #[.string (s.extract (i + 8) (i + 16))] wx fun e w' => e = .returned (.int .i64 y) ∧ wx = w') := hide (fun wx => by rw [hy]; exact rback wx _ HS2.out.2)
      have HI := hide hi
      have hk8 : (k + 1) * 16 ≤ 140737488355328 := by have := HN.out; omega
      clear hi hx hy HS1 HS2
      go_wp2_with fail
      go_region_held3 (fun w' => True) (trivial)
        (first
        | (go_at_call_has 54 (Value.string (s.extract i (i + 8))); refine (HB1.out _).mono ?_; rintro e w' ⟨rfl, rfl⟩)
        | (go_at_call_has 54 (Value.string (s.extract (i + 8) (i + 16))); refine (HB2.out _).mono ?_; rintro e w' ⟨rfl, rfl⟩)
        | ((refine step_append_reads _ (by rfl) (.tmp 16) (.tmp 31) 23 (by rfl) 0 30 i0 _ 2 16 Try.underlying23 hi0 hz0 hz1 hz2 (by rfl) (by decide) (.slice A k c) k (ents (readL k s.data.toList)) (by rfl) (HO.out.turn0 (by repeat first | exact Turn.refl _ _ | exact (show Hid (Turn [] _ _) by assumption).out | refine Turn.drew ?_ | refine Turn.drewN ?_ _ | refine Turn.alloc ?_ _)).own (some ⟨wr.heap.size, 0, none⟩) 1 1 (ents [(x, y)]) (by rfl) (reads_blk (Blk.new_at (by simp) 30 #[.int .i64 x, .int .i64 y]) (by rfl)) (ents_oneCell _) (by unfold maxLen; omega) (by omega) (Nat.zero_le _) ?_; intro v5 w5 ho5 hg5 hb5 hn5)))
      obtain ⟨A5, c5, rfl, ho6, _⟩ := HO.out.app (by repeat first | exact Turn.refl _ _ | exact (show Hid (Turn [] _ _) by assumption).out | refine Turn.drew ?_ | refine Turn.drewN ?_ _ | refine Turn.alloc ?_ _) hg5 ho5 hb5
      have HO6 := hide ho6
      clear ho5 hg5 hb5 hn5 ho6
      go_wp2_with fail
      exact ⟨⟨k + 1, A5, c5, by omega, congrArg (Value.int .i64) (by have := HI.out; clear h8 h16 hw8 hw16; omega), rfl, by rw [HS.out, ents_append]; exact HO6.out⟩, by show s.size - ((i : Int) + 16).toNat < s.size - (i : Int).toNat; rw [h16]; omega⟩
    · obtain rfl : k = n := by omega
      have hp0 : ¬ (i : Int) < (s.size : Int) := by have := HN.out; omega
      clear hi
      go_wp2_with fail
      go_ret2
      exact ⟨A, c, by rw [readL_length]; rfl, HO.out.turn, by rw [readL_length]; exact HO.out.own, HO.out.new⟩

def RLoadYes (L : List En) (w : World) (e : Ending) (w' : World) : Prop := ∃ F b, e = .returned (.tuple #[.pointer (some ⟨b, 0, none⟩), .int .i64 0]) ∧ Turn [] w w' ∧ RIdx w' F b L ∧ ∀ k ∈ F, w.heap.size ≤ k
set_option maxHeartbeats 1600000 in
set_option maxRecDepth 100000 in
theorem rload_bad (w : World) (s : ByteArray) (hs : s.size ≤ 140737488351232) (h : s.size % 16 ≠ 0) : Calls Try.prog 29 #[.string s] w (LoadNo 29 w) := by
  have HC := hide (rread_no w s hs h)
  go_enter Try.func29, Try.ntmps29
  go_wp2_with fail
  refine HC.out.mono ?_
  rintro e w1 ⟨A, c, rfl, ht, ho, hn⟩
  clear ho hn
  go_wp2_with fail
  go_ret2
  exact ⟨rfl, ht⟩
def RLoadIs (L : List En) (w : World) (e : Ending) (w' : World) : Prop := if allFit [] L = true then RLoadYes L w e w' else LoadNo 30 w e w'
theorem not_own {w : World} {A : Option Addr} {k c b : Nat} {xs : List Value} {cs : Array Value} (ho : w.ownsRow 0 30 2 (.slice A k c) k xs) (hb : Blk w b 71 cs) : b ∉ blockOf A := fun hk => own_blk_ne ho hb (by decide) (mem_blockOf.2 hk)
set_option maxHeartbeats 4000000 in
set_option maxRecDepth 100000 in
theorem rload_good (w : World) (s : ByteArray) (n : Nat) (hn : s.size = 16 * n) (hs : s.size ≤ 140737488351232) : Calls Try.prog 29 #[.string s] w (RLoadIs (readL n s.data.toList) w) := by
  obtain ⟨i0, hi0, hz0, hz1, hz2⟩ := info_parts info30
  have HC := hide (rread_yes w s n hn hs)
  have hl0 := readL_length n s.data.toList
  obtain ⟨L, hL⟩ : ∃ L, L = readL n s.data.toList := ⟨_, rfl⟩
  rw [← hL] at HC hl0 ⊢
  have hLs : L.length * 16 ≤ 140737488351232 := by omega
  clear hL hl0 hn
  go_enter Try.func29, Try.ntmps29
  go_wp2_with fail
  refine HC.out.mono ?_
  rintro e w1 ⟨A, c, rfl, ht, ho, hna⟩
  have HO := hide (Reads.of_own ho)
  have HT0 := hide ht
  clear ht ho hna HC
  go_wp2_with fail
  refine (rnew _).mono ?_
  rintro e w2 ⟨b, rfl, hb, ht2, hx⟩
  obtain ⟨A0, c0, hF, hB, ho0, _⟩ := hx
  have HT2 := hide ht2
  have HB2 : Hid (Blk w2 b 71 #[.slice A0 0 c0]) := hide hB
  obtain rfl : A0 = none := by
    have := List.cons.inj hF
    cases A0 with
    | none => rfl
    | some a => simp [blockOf] at hF
  have HO2 : Hid (OwnR w1 30 2 none 0 c0 (ents []) w2) := hide ⟨ho0, by simp [blockOf], ht2⟩
  have HNEW : Hid (w1.heap.size ≤ b) := hide hb
  clear ht2 hb hB ho0 hF
  go_wp2_with fail
  go_loopw [7] (fun i wr => ∃ (k : Nat) (A6 : Option Addr) (c6 : Nat), k ≤ L.length ∧ i = .int .i64 k ∧ Blk wr b 71 #[.slice A6 k c6] ∧ OwnR w1 30 2 A6 k c6 (ents (L.take k)) wr ∧ allFit [] L = allFit (L.take k) (L.drop k)) (fun i _ => L.length - (intOf i).toNat)
  case atStart => exact ⟨0, none, c0, Nat.zero_le _, rfl, HB2.out, HO2.out, rfl⟩
  case round =>
    clear HB2 HO2
    obtain ⟨k, A6, c6, hk, rfl, hb, ho, hall⟩ := hrel
    by_cases hlt : k < L.length
    · obtain ⟨g, off, rfl, hg, hcx, hcy⟩ := reads_ent (HO.out.turn0 ho.turn) hlt
      have hlen : (L.take k).length = k := by rw [List.length_take]; omega
      have HS := hide (List.take_succ_eq_append_getElem hlt)
      rw [allFit_step hlt] at hall
      have hsz1 : (k + 1) * 16 ≤ 140737488355328 := by omega
      obtain ⟨⟨x, y⟩, hxy⟩ : ∃ e, e = L[k] := ⟨_, rfl⟩
      rw [← hxy] at hcx hcy HS hall
      have HB := hide hb
      have HOR := hide ho
      have HALL := hide hall
      have hbw := hb.lt
      have hcb : wr.cell? ⟨b, 0, none⟩ = some (.slice A6 k c6) := hb.cell 0
      have hfb := hb.frozen 0
      have HQ : Hid (∀ wx, Turn [] wr wx → Calls Try.prog 55 #[.slice A6 k c6, .agg #[.int .i64 x, .int .i64 y]] wx (Same (.bool (fits (L.take k) (x, y))) wx)) := hide (fun wx ht => by
        have hr := (ho.turn0 ht).reads
        have h := rfits (l := L.take k) c6 (by rw [hlen]; exact hr) (by rw [hlen]; omega) x y
        rwa [hlen] at h)
      have hpk : (0 : Int) ≤ (k : Int) := by omega
      have hpl : (k : Int) < (L.length : Int) := by omega
      have HLen := hide hlen
      clear hb ho hall hxy hlen
      obtain ⟨l, hl⟩ : ∃ l, l = L.take k := ⟨_, rfl⟩
      rw [← hl] at HS HALL HOR HQ HLen
      clear hl
      by_cases hfit : fits l (x, y) = true
      · have HFit := hide hfit
        rw [hfit] at HQ
        clear hfit
        go_wp2_with fail
        go_region_held3 (fun w' => w'.cell? ⟨b, 0, none⟩ = some (.slice A6 k c6) ∧ w'.cell? ⟨g, off + k * 2, none⟩ = some (.int .i64 x) ∧ w'.cell? ⟨g, off + k * 2 + 1, none⟩ = some (.int .i64 y)) (go_keep)
          (first
          | (go_at_call 55; refine (HQ.out _ ?_).mono ?_; (exact (by repeat first | exact Turn.refl _ _ | exact (show Hid (Turn [] _ _) by assumption).out | refine Turn.drew ?_ | refine Turn.drewN ?_ _ | refine Turn.alloc ?_ _)); rintro e w3 ⟨rfl, ht3⟩; have HT3 := hide (Turn.pre (w := wr) (by repeat first | exact Turn.refl _ _ | exact (show Hid (Turn [] _ _) by assumption).out | refine Turn.drew ?_ | refine Turn.drewN ?_ _ | refine Turn.alloc ?_ _) ht3); clear ht3; have hcx3 := (HT3.out.cells0.1 g (off + k * 2) hg).trans hcx; have hcy3 := (HT3.out.cells0.1 g (off + k * 2 + 1) hg).trans hcy; have hcb3 := (HT3.out.cells0.1 b 0 hbw).trans hcb))
        have HB3 := hide (HB.out.turn HT3.out (by simp))
        have HOR3 := hide (HOR.out.turn0 HT3.out)
        have hg3 : g < w3.heap.size := by have := HT3.out.size; omega
        have hbw3 := HB3.out.lt
        have hfb3 := HB3.out.frozen 0
        have hgA : g ∉ blockOf A6 := fun hm => by have h1 := HOR.out.new g hm; have h2 := HO.out.2 (by omega); obtain ⟨g', off', he, hgw, _⟩ := h2; injection he with he; injection he with he1; omega
        have hbA := not_own HOR3.out.own HB3.out
        clear hcx hcy hcb hfb hbw
        go_wp2_with fail
        go_region_law (refine step_append_reads _ rfl (.tmp 37) (.tmp 42) 23 rfl 0 30 i0 _ 2 16 Try.underlying23 hi0 hz0 hz1 hz2 rfl (by decide) (.slice A6 k c6) k (ents l) (by simp [Act.eval, Act.put]) (HOR3.out.turn0 (by repeat first | exact Turn.refl _ _ | exact (show Hid (Turn [] _ _) by assumption).out | refine Turn.drew ?_ | refine Turn.drewN ?_ _ | refine Turn.alloc ?_ _)).own (some ⟨w3.heap.size, 0, none⟩) 1 1 (ents [(x, y)]) (by simp [Act.eval, Act.put]) (reads_blk (by repeat first | exact Blk.new_at (by simp) 30 #[.int .i64 x, .int .i64 y] | refine Blk.drew ?_ | refine Blk.drewN ?_ _) rfl) (ents_oneCell _) (by unfold maxLen; omega) (by omega) (Nat.zero_le _) ?_; intro v5 w5 ho5 hg5 hb5 hn5; obtain ⟨A5, c5, rfl, ho6, ht6⟩ := HOR3.out.app (by repeat first | exact Turn.refl _ _ | exact (show Hid (Turn [] _ _) by assumption).out | refine Turn.drew ?_ | refine Turn.drewN ?_ _ | refine Turn.alloc ?_ _) hg5 ho5 hb5; have HB5 := hide (HB3.out.turn ht6 hbA); have HOR5 := hide ho6; have hcb5 := HB5.out.cell 0; have hfb5 := HB5.out.frozen 0; have hbw5 := HB5.out.lt; clear ho5 hg5 hb5 hn5 ho6 ht6)
        all_goals
          go_wp2_with fail
          exact ⟨⟨k + 1, A5, c5, by omega, by go_num, by simpa using HB5.out.set_ 0 (.slice A5 (k + 1) c5), by rw [HS.out, ents_append]; exact HOR5.out.set_ 0 _ (not_own HOR5.out.own HB5.out) HNEW.out, by rw [HALL.out, HFit.out]; rfl⟩, by simp [intOf]; omega⟩
      · have hf' : fits l (x, y) = false := by simpa using hfit
        have HFit := hide hf'
        rw [hf'] at HQ
        clear hfit hf'
        have HNo : Hid (¬ allFit [] L = true) := hide (by rw [HALL.out, HFit.out]; simp)
        go_wp2_with fail
        go_region_held3 (fun w' => w'.cell? ⟨b, 0, none⟩ = some (.slice A6 k c6) ∧ w'.cell? ⟨g, off + k * 2, none⟩ = some (.int .i64 x) ∧ w'.cell? ⟨g, off + k * 2 + 1, none⟩ = some (.int .i64 y)) (go_keep)
          (first
          | (go_at_call 55; refine (HQ.out _ ?_).mono ?_; (exact (by repeat first | exact Turn.refl _ _ | exact (show Hid (Turn [] _ _) by assumption).out | refine Turn.drew ?_ | refine Turn.drewN ?_ _ | refine Turn.alloc ?_ _)); rintro e w3 ⟨rfl, ht3⟩; have HT3 := hide (Turn.pre (w := wr) (by repeat first | exact Turn.refl _ _ | exact (show Hid (Turn [] _ _) by assumption).out | refine Turn.drew ?_ | refine Turn.drewN ?_ _ | refine Turn.alloc ?_ _) ht3); clear ht3; have hcx3 := (HT3.out.cells0.1 g (off + k * 2) hg).trans hcx; have hcy3 := (HT3.out.cells0.1 g (off + k * 2 + 1) hg).trans hcy; have hcb3 := (HT3.out.cells0.1 b 0 hbw).trans hcb))
        go_wp2_with fail
        go_ret2
        unfold RLoadIs
        rw [if_neg HNo.out]
        exact ⟨rfl, (HT0.out.trans0 HOR.out.turn).trans0 (by repeat first | exact Turn.refl _ _ | exact (show Hid (Turn [] _ _) by assumption).out | refine Turn.drew ?_ | refine Turn.drewN ?_ _ | refine Turn.alloc ?_ _)⟩
    · obtain rfl : k = L.length := by omega
      rw [List.take_length, List.drop_length] at *
      have HB := hide hb
      have HOR := hide ho
      have HALL : Hid (allFit [] L = true) := hide (by rw [hall]; rfl)
      clear hb ho hall
      go_wp2_with fail
      go_ret2
      unfold RLoadIs
      rw [if_pos HALL.out]
      exact ⟨b :: blockOf A6, b, rfl, HT0.out.trans0 HOR.out.turn, ⟨A6, c6, rfl, HB.out, HOR.out.own, by omega⟩, fun z hz => by
        rcases List.mem_cons.1 hz with rfl | h
        · exact Nat.le_trans HT0.out.size HNEW.out
        · exact Nat.le_trans HT0.out.size (HOR.out.new z h)⟩
end Go.Proofs.Ytgjpaglkcpomnaa

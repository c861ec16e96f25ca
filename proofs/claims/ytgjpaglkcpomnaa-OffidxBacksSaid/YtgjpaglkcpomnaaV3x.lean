/- OffidxBacks, walked. -/
import Derived.Test.YtgjpaglkcpomnaaPlain2
import Derived.Test.YtgjpaglkcpomnaaV0x
import Derived.Test.YtgjpaglkcpomnaaLater
namespace Go.Proofs.Ytgjpaglkcpomnaa
set_option linter.unusedVariables false
set_option linter.unusedSimpArgs false
open Go.RowKit K

/-- what is put of entries that fit is loaded as they were. -/
theorem load_own (w : World) (l : List En) (hsz : l.length * 16 ≤ 140737488351232) (hR : ∀ e ∈ l, inR e) (hf : allFit [] l = true) : Calls Try.prog 28 #[.string (strOf (putB l))] w (LoadYes l w) := by
  refine (load_good w (strOf (putB l)) l.length (by rw [strOf_size, putB_length]; omega) (by rw [strOf_size, putB_length]; omega)).mono fun e w' h => ?_
  rw [strOf_list, readL_putB l hR] at h
  unfold LoadIs at h
  rw [if_pos hf] at h
  exact h
theorem put_back (w : World) (s : ByteArray) (q : Nat) (hq : s.size = 16 * q) (hs : s.size ≤ 140737488351232) {A : Option Addr} (c : Nat) (hr : Reads w 2 A (readL q s.data.toList).length (ents (readL q s.data.toList))) :
    Calls Try.prog 25 #[.slice A (readL q s.data.toList).length c] w (Same (.string s) w) := by
  refine (put_reads c hr (by rw [readL_length]; omega)).mono fun e w' h => ⟨?_, h.2⟩
  rw [h.1, putB_readL q s.data.toList (by rw [Array.length_toList]; exact hq), strOf_self]
set_option maxHeartbeats 8000000 in
set_option maxRecDepth 1000000 in
theorem backs_any (w : World) (A : Option Addr) (c : Nat) (L : List En) (n : Int) (s : ByteArray) (hr : Reads w 2 A L.length (ents L)) (hsz : L.length * 16 ≤ 140737488351232) (hR : ∀ e ∈ L, inR e) (hs : s.size ≤ 140737488351232) :
    Calls Try.prog 9 #[.slice A L.length c, .int .i64 n, .string s] w (Same (.bool true) w) := by
  have HR := hide hr
  clear hr
  go_enter Try.func9, Try.ntmps9
  go_wp2_with fail
  refine (fixed_any _).mono ?_
  rintro e w1 ⟨rfl, ht1⟩
  have HB := hide (built_any w1 A c L (HR.out.turn0 ht1) hsz)
  go_wp2_with fail
  refine HB.out.mono ?_
  rintro e w2 ⟨b, A6, c6, F, rfl, hB⟩
  clear HB
  have hlen := builtL_length L
  have HIn : Hid (∀ e ∈ builtL L, inR e) := hide (fun e he => hR e (builtL_mem L e he))
  have HAF := hide (allFit_built L)
  obtain ⟨l, hl⟩ : ∃ l, l = builtL L := ⟨_, rfl⟩
  rw [← hl] at hB hlen HIn HAF ⊢
  clear hl hR
  have HT2 := hide (ht1.trans0 hB.turn)
  have HX := hide (fun wx (ht : Turn [] w2 wx) => hB.idx.turn0 ht)
  have HB := hide hB
  clear hB ht1
  go_wp2_with fail
  refine (ibytes_at (HX.out _ (Turn.refl _ _))).mono ?_
  rintro e w3 ⟨rfl, ht3⟩
  have HLd := hide (load_own w3 l (by omega) HIn.out HAF.out)
  go_wp2_with fail
  refine HLd.out.mono ?_
  rintro e w4 ⟨F4, b4, rfl, ht4, hx4, hn4⟩
  clear HLd
  have HX4 := hide hx4
  have HT4 := hide ((HT2.out.trans0 ht3).trans0 ht4)
  have HL4 := hide (((Reads.of_own HB.out.own).turn0 ht3).turn0 ht4)
  have HN4 : Hid (∀ k ∈ F4, w2.heap.size ≤ k) := hide (fun k hk => by have := hn4 k hk; have := ht3.size; omega)
  clear hx4 hn4 ht3 ht4
  go_wp2_with fail
  refine (entries_at HX4.out).mono ?_
  rintro e w5 ⟨A5, c5, rfl, ht5, ho5, hn5⟩
  go_wp2_with fail
  refine (same_eq _ _ (Reads.of_own ho5) (HL4.out.turn0 ht5) (by omega)).mono ?_
  rintro e w6 ⟨rfl, ht6⟩
  have HX6 := hide ((HX4.out.turn0 ht5).turn0 ht6)
  have HT6 := hide ((HT4.out.trans0 ht5).trans0 ht6)
  have hpl : (strOf (putB l)).size = 16 * l.length := by rw [strOf_size, putB_length]; omega
  have hmul : wrap64 (16 * (l.length : Int)) = ((16 * l.length : Nat) : Int) := by unfold wrap64; omega
  clear ht5 ht6 ho5 hn5
  have HSc := hide hsz
  go_wp2_with fail
  by_cases hin : 0 ≤ n ∧ n ≤ l.length
  · have hcut := icut_at HX6.out n
    rw [show cutE l n = 0 by unfold cutE; rw [if_pos hin], show cutL l n = l.take n.toNat by unfold cutL; rw [if_pos hin]] at hcut
    obtain ⟨k, rfl⟩ := Int.eq_ofNat_of_zero_le hin.1
    have hk : k ≤ l.length := by omega
    rw [show (k : Int).toNat = k from rfl] at hcut
    refine hcut.mono ?_
    rintro e w7 ⟨F7, rfl, ht7, hx7, hn7⟩
    have HX7 := hide hx7
    have HT7 := hide (HT6.out.trans ht7 (fun x hx => .inr (Nat.le_trans HT2.out.size (HN4.out x hx))))
    clear hx7 ht7 hn7 hcut
    have hd1 : (0 : Int) ≤ (k : Int) := by omega
    have hd2 : (k : Int) ≤ (l.length : Int) := by omega
    have HK := hide hk
    clear hin
    go_wp2_with fail
    have hext : (strOf (putB l)).extract 0 (16 * k) = strOf (putB (l.take k)) := by
      apply str_ext
      rw [Lib.extract_data, strOf_list, strOf_list, List.drop_zero, Nat.sub_zero, putB_takes]
    have hmk : wrap64 (16 * (k : Int)) = ((16 * k : Nat) : Int) := by unfold wrap64; omega
    have hlt : (l.take k).length = k := by rw [List.length_take]; omega
    have hw1 : IntKind.i64.wrap (16 * (k : Int)) = 16 * (k : Int) := by rw [IntKind.wrap_i64]; omega
    have hw2 : (0 : Int) ≤ 16 * (k : Int) := by omega
    have hw3 : 16 * (k : Int) ≤ ((strOf (putB l)).size : Int) := by omega
    have hw4 : (16 * (k : Int)).toNat = 16 * k := by omega
    have HLt := hide hlt
    clear hlt hmk hmul hpl
    refine wp_region_later (w0 := w7) (Turn.refl _ _) (by kernel_rfl) (by kernel_rfl) ?_
    repeat (go_big_quiet_step (first | (go_at_call 21; exact calls_later (ibytes_at (HX7.out.turn0 (Later.t _)))) | (go_at_call 12; exact calls_later_same (len_at (HX7.out.turn0 (Later.t _))))))
    refine wpQuiet_nil ?_
    intro w8 hw8
    have ht8 := later_out hw8
    clear hw8
    have HT8 := hide (HT7.out.trans0 ht8)
    clear ht8
    go_wp2_with fail
    by_cases hm : s.size % 16 = 0
    · obtain ⟨q, hq⟩ : ∃ q, s.size = 16 * q := ⟨s.size / 16, by omega⟩
      have HQ := hide hq
      have HRd := hide (read_yes w8 s q hq hs)
      clear hq hm
      refine HRd.out.mono ?_
      rintro e w9 ⟨A9, c9, rfl, ht9, ho9, hn9⟩
      have HP := hide (put_back w9 s q HQ.out hs c9 (Reads.of_own ho9))
      have HT9 := hide (HT8.out.trans0 ht9)
      clear ht9 ho9 hn9 HRd
      go_wp2_with fail
      refine HP.out.mono ?_
      rintro e wa ⟨rfl, hta⟩
      go_wp2_with fail
      go_ret
      exact ⟨rfl, HT9.out.trans0 hta⟩
    · have hmm : ((s.size : Int) % 16 != 0) = true := by rw [bne_iff_ne]; omega
      have HRd := hide (read_no w8 s hs hm)
      clear hm
      refine HRd.out.mono ?_
      rintro e w9 ⟨A9, c9, rfl, ht9, ho9, hn9⟩
      have HT9 := hide (HT8.out.trans0 ht9)
      clear ht9 ho9 hn9 HRd
      go_wp2_with fail
      go_ret
      exact ⟨rfl, HT9.out⟩
  · have hcut := icut_at HX6.out n
    rw [show cutE l n = 1 by unfold cutE; rw [if_neg hin], show cutL l n = l by unfold cutL; rw [if_neg hin]] at hcut
    refine hcut.mono ?_
    rintro e w7 ⟨F7, rfl, ht7, hx7, hn7⟩
    have HT7 := hide (HT6.out.trans ht7 (fun x hx => .inr (Nat.le_trans HT2.out.size (HN4.out x hx))))
    clear hx7 ht7 hn7 hcut
    rcases (show n < 0 ∨ (0 ≤ n ∧ (l.length : Int) < n) by omega) with hd | ⟨hd, hd'⟩
    · have hd1 : decide (0 ≤ n) = false := by simp; omega
      clear hin
      go_wp2_with fail
      refine wp_region_later (w0 := w7) (Turn.refl _ _) (by kernel_rfl) (by kernel_rfl) ?_
      repeat (go_big_quiet_step (fail))
      refine wpQuiet_nil ?_
      intro w8 hw8
      have ht8 := later_out hw8
      clear hw8
      have HT8 := hide (HT7.out.trans0 ht8)
      clear ht8
      go_wp2_with fail
      by_cases hm : s.size % 16 = 0
      · obtain ⟨q, hq⟩ : ∃ q, s.size = 16 * q := ⟨s.size / 16, by omega⟩
        have HQ := hide hq
        have HRd := hide (read_yes w8 s q hq hs)
        clear hq hm
        refine HRd.out.mono ?_
        rintro e w9 ⟨A9, c9, rfl, ht9, ho9, hn9⟩
        have HP := hide (put_back w9 s q HQ.out hs c9 (Reads.of_own ho9))
        have HT9 := hide (HT8.out.trans0 ht9)
        clear ht9 ho9 hn9 HRd
        go_wp2_with fail
        refine HP.out.mono ?_
        rintro e wa ⟨rfl, hta⟩
        go_wp2_with fail
        go_ret
        exact ⟨rfl, HT9.out.trans0 hta⟩
      · have hmm : ((s.size : Int) % 16 != 0) = true := by rw [bne_iff_ne]; omega
        have HRd := hide (read_no w8 s hs hm)
        clear hm
        refine HRd.out.mono ?_
        rintro e w9 ⟨A9, c9, rfl, ht9, ho9, hn9⟩
        have HT9 := hide (HT8.out.trans0 ht9)
        clear ht9 ho9 hn9 HRd
        go_wp2_with fail
        go_ret
        exact ⟨rfl, HT9.out⟩
    · have hd2 : decide (n ≤ (l.length : Int)) = false := by simp; omega
      clear hin
      go_wp2_with fail
      refine wp_region_later (w0 := w7) (Turn.refl _ _) (by kernel_rfl) (by kernel_rfl) ?_
      repeat (go_big_quiet_step (fail))
      refine wpQuiet_nil ?_
      intro w8 hw8
      have ht8 := later_out hw8
      clear hw8
      have HT8 := hide (HT7.out.trans0 ht8)
      clear ht8
      go_wp2_with fail
      by_cases hm : s.size % 16 = 0
      · obtain ⟨q, hq⟩ : ∃ q, s.size = 16 * q := ⟨s.size / 16, by omega⟩
        have HQ := hide hq
        have HRd := hide (read_yes w8 s q hq hs)
        clear hq hm
        refine HRd.out.mono ?_
        rintro e w9 ⟨A9, c9, rfl, ht9, ho9, hn9⟩
        have HP := hide (put_back w9 s q HQ.out hs c9 (Reads.of_own ho9))
        have HT9 := hide (HT8.out.trans0 ht9)
        clear ht9 ho9 hn9 HRd
        go_wp2_with fail
        refine HP.out.mono ?_
        rintro e wa ⟨rfl, hta⟩
        go_wp2_with fail
        go_ret
        exact ⟨rfl, HT9.out.trans0 hta⟩
      · have hmm : ((s.size : Int) % 16 != 0) = true := by rw [bne_iff_ne]; omega
        have HRd := hide (read_no w8 s hs hm)
        clear hm
        refine HRd.out.mono ?_
        rintro e w9 ⟨A9, c9, rfl, ht9, ho9, hn9⟩
        have HT9 := hide (HT8.out.trans0 ht9)
        clear ht9 ho9 hn9 HRd
        go_wp2_with fail
        go_ret
        exact ⟨rfl, HT9.out⟩
end Go.Proofs.Ytgjpaglkcpomnaa

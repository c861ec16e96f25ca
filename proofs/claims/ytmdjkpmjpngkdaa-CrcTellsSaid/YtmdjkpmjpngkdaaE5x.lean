/- The statement over one text that is cut: Pieces. -/
import Derived.Test.YtmdjkpmjpngkdaaE4x
namespace Go.Proofs.Ytmdjkpmjpngkdaa
set_option linter.unusedVariables false
set_option linter.unusedSimpArgs false
open Go.RowKit K

theorem run_shift (x y : BitVec 32) (l : List UInt8) : run (x ^^^ y) l = zer l.length x ^^^ run y l := by
  induction l generalizing x y with
  | nil => rfl
  | cons b l ih =>
    show run (take (x ^^^ y) b) l = zer (l.length + 1) x ^^^ run (take y b) l
    have : take (x ^^^ y) b = T x ^^^ take y b := by
      unfold take
      rw [BitVec.xor_assoc, T_xor]
    rw [this, ih, zer_add]
    rfl
theorem join_gives (x : BitVec 32) (t : ByteArray) : zerI t.size x ^^^ more 0#32 t = more x t := by
  have h := run_shift x (~~~ 0#32) t.data.toList
  have hx : x ^^^ ~~~ 0#32 = ~~~ x := by
    rw [← ones_xor 0#32, ← ones_xor x, BitVec.xor_zero, BitVec.xor_comm]
  rw [hx] at h
  rw [more, more, h]
  show zer ((t.data.toList.length : Int).toNat) x ^^^ _ = _
  rw [Int.toNat_natCast, ← ones_xor (_ ^^^ _), ← ones_xor (run _ _), ← BitVec.xor_assoc, BitVec.xor_comm _ (-1#32), BitVec.xor_assoc]
theorem cut_list (s : ByteArray) (k : Nat) (hk : k ≤ s.size) : s.data.toList = (s.extract 0 k).data.toList ++ (s.extract k s.size).data.toList := by
  obtain ⟨⟨l⟩⟩ := s
  have hl : (ByteArray.mk ⟨l⟩).size = l.length := rfl
  rw [hl] at hk ⊢
  rw [ByteArray.data_extract, ByteArray.data_extract]
  simp only [List.extract_toArray, List.extract_eq_take_drop, List.drop_zero, Nat.sub_zero]
  rw [List.take_of_length_le (l := l.drop k) (by simp), List.take_append_drop]
set_option maxHeartbeats 800000 in
theorem pieces_core (w : World) (s : ByteArray) (at_ : Nat) (hs : s.size ≤ 140737488351232) (hat : at_ ≤ s.size) (x : Int) (hx : x = at_ ∨ (at_ = s.size ∧ (x < 0 ∨ (s.size : Int) < x))) :
    Calls Try.prog 9 #[.string s, .int .i64 x] w fun e w' => e = .returned (.bool true) ∧ Turn [] w w' := by
  have hst : s.size ≤ 9223372036854775807 := by omega
  obtain ⟨p, hp⟩ : ∃ p, p = s.extract 0 at_ := ⟨_, rfl⟩
  obtain ⟨q, hq⟩ : ∃ q, q = s.extract at_ s.size := ⟨_, rfl⟩
  have hl : s.data.toList = p.data.toList ++ q.data.toList := by rw [hp, hq]; exact cut_list s at_ hat
  have hlen : s.size = p.size + q.size := by
    have := congrArg List.length hl
    rw [List.length_append] at this
    exact this
  have hpz : p.size ≤ 9223372036854775807 := by omega
  have hqz : q.size ≤ 9223372036854775807 := by omega
  have hm : more (more 0#32 p) q = more 0#32 s := (more_append 0#32 p q s hl).symm
  have hj : zerI q.size (more 0#32 p) ^^^ more 0#32 q = more 0#32 s := by rw [join_gives, hm]
  have hbh : zerI q.size (more 0#32 p) ^^^ more 0#32 s = more 0#32 q := by rw [← hj, ← BitVec.xor_assoc, BitVec.xor_self, BitVec.zero_xor]
  have HP := hide hp
  have HQ := hide hq
  have HM := hide hm
  have HJ := hide hj
  have HB := hide hbh
  have HLen := hide hlen
  clear hp hq hm hj hbh hl hlen
  go_enter Try.func9, Try.ntmps9
  go_wp2_with fail
  refine (awake_any _).mono ?_
  rintro e w1 ⟨rfl, ht1⟩
  have HT1 := hide ht1
  clear ht1
  rcases hx with rfl | ⟨rfl, hx | hx⟩
  · have h1 : ¬ (at_ : Int) < 0 := by omega
    have h2 : ¬ (s.size : Int) < at_ := by omega
    go_wp2_with fail
    rw [← HP.out, ← HQ.out]
    refine (sum_any _ s hst).mono ?_
    rintro e w2 ⟨rfl, ht2⟩
    have HT2 := hide (HT1.out.trans0 ht2)
    clear ht2
    go_wp2_with fail
    refine (new_any _).mono ?_
    rintro e w3 ⟨b, rfl, hb, ht3, hd3⟩
    have HT3 := hide (HT2.out.trans0 ht3)
    have hb' : w.heap.size ≤ b := by have := HT2.out.size; omega
    have HD3 := hide hd3
    clear ht3 hd3
    go_wp2_with fail
    refine (write_any _ b _ _ p hpz HD3.out).mono ?_
    rintro e w4 ⟨rfl, ht4, hd4⟩
    have HT4 := hide (HT3.out.trans ht4 (fun x hx => .inr (by simp at hx; omega)))
    have HD4 := hide hd4
    clear ht4 hd4
    go_wp2_with fail
    refine (write_any _ b _ _ q hqz HD4.out).mono ?_
    rintro e w5 ⟨rfl, ht5, hd5⟩
    have HT5 := hide (HT4.out.trans ht5 (fun x hx => .inr (by simp at hx; omega)))
    have HD5 := hide hd5
    clear ht5 hd5
    go_wp2_with fail
    refine (dsum_any _ b _ _ HD5.out).mono ?_
    rintro e w6 ⟨rfl, rfl⟩
    rw [HM.out]
    go_wp2_with fail
    refine (sum_any _ p hpz).mono ?_
    rintro e w7 ⟨rfl, ht7⟩
    have HT7 := hide (HT5.out.trans0 ht7)
    clear ht7
    go_wp2_with fail
    refine (more_any _ _ q hqz).mono ?_
    rintro e w8 ⟨rfl, ht8⟩
    have HT8 := hide (HT7.out.trans0 ht8)
    clear ht8
    rw [HM.out]
    go_wp2_with fail
    refine (sum_any _ p hpz).mono ?_
    rintro e w9 ⟨rfl, ht9⟩
    have HT9 := hide (HT8.out.trans0 ht9)
    clear ht9
    go_wp2_with fail
    refine (sum_any _ q hqz).mono ?_
    rintro e wa ⟨rfl, hta⟩
    have HTa := hide (HT9.out.trans0 hta)
    clear hta
    go_wp2_with fail
    refine (join_any _ _ _ _ (by omega)).mono ?_
    rintro e wb ⟨rfl, htb⟩
    have HTb := hide (HTa.out.trans0 htb)
    clear htb
    rw [HJ.out]
    go_wp2_with fail
    refine (sum_any _ p hpz).mono ?_
    rintro e wc ⟨rfl, htc⟩
    have HTc := hide (HTb.out.trans0 htc)
    clear htc
    go_wp2_with fail
    refine (behind_any _ _ _ _ (by omega)).mono ?_
    rintro e wd ⟨rfl, htd⟩
    have HTd := hide (HTc.out.trans0 htd)
    clear htd
    rw [HB.out]
    go_wp2_with fail
    refine (sum_any _ q hqz).mono ?_
    rintro e we ⟨rfl, hte⟩
    have HTe := hide (HTd.out.trans0 hte)
    clear hte
    go_wp2_with fail
    go_ret
    exact ⟨rfl, HTe.out⟩
  · go_wp2_with fail
    obtain rfl : p = s := by rw [HP.out]; simp
    obtain rfl : q = ByteArray.empty := by rw [HQ.out]; simp
    have HJ0 : Hid (zerI 0 (more 0#32 p) ^^^ more 0#32 ByteArray.empty = more 0#32 p) := hide HJ.out
    have HB0 : Hid (zerI 0 (more 0#32 p) ^^^ more 0#32 p = more 0#32 ByteArray.empty) := hide HB.out
    refine (sum_any _ p hst).mono ?_
    rintro e w2 ⟨rfl, ht2⟩
    have HT2 := hide (HT1.out.trans0 ht2)
    clear ht2
    go_wp2_with fail
    refine (new_any _).mono ?_
    rintro e w3 ⟨b, rfl, hb, ht3, hd3⟩
    have HT3 := hide (HT2.out.trans0 ht3)
    have hb' : w.heap.size ≤ b := by have := HT2.out.size; omega
    have HD3 := hide hd3
    clear ht3 hd3
    go_wp2_with fail
    refine (write_any _ b _ _ p hpz HD3.out).mono ?_
    rintro e w4 ⟨rfl, ht4, hd4⟩
    have HT4 := hide (HT3.out.trans ht4 (fun x hx => .inr (by simp at hx; omega)))
    have HD4 := hide hd4
    clear ht4 hd4
    go_wp2_with fail
    refine (write_any _ b _ _ ByteArray.empty hqz HD4.out).mono ?_
    rintro e w5 ⟨rfl, ht5, hd5⟩
    have HT5 := hide (HT4.out.trans ht5 (fun x hx => .inr (by simp at hx; omega)))
    have HD5 := hide hd5
    clear ht5 hd5
    go_wp2_with fail
    refine (dsum_any _ b _ _ HD5.out).mono ?_
    rintro e w6 ⟨rfl, rfl⟩
    rw [HM.out]
    go_wp2_with fail
    refine (sum_any _ p hpz).mono ?_
    rintro e w7 ⟨rfl, ht7⟩
    have HT7 := hide (HT5.out.trans0 ht7)
    clear ht7
    go_wp2_with fail
    refine (more_any _ _ ByteArray.empty hqz).mono ?_
    rintro e w8 ⟨rfl, ht8⟩
    have HT8 := hide (HT7.out.trans0 ht8)
    clear ht8
    rw [HM.out]
    go_wp2_with fail
    refine (sum_any _ p hpz).mono ?_
    rintro e w9 ⟨rfl, ht9⟩
    have HT9 := hide (HT8.out.trans0 ht9)
    clear ht9
    go_wp2_with fail
    refine (sum_any _ ByteArray.empty hqz).mono ?_
    rintro e wa ⟨rfl, hta⟩
    have HTa := hide (HT9.out.trans0 hta)
    clear hta
    go_wp2_with fail
    refine (join_any _ _ _ _ (by omega)).mono ?_
    rintro e wb ⟨rfl, htb⟩
    have HTb := hide (HTa.out.trans0 htb)
    clear htb
    rw [HJ0.out]
    go_wp2_with fail
    refine (sum_any _ p hpz).mono ?_
    rintro e wc ⟨rfl, htc⟩
    have HTc := hide (HTb.out.trans0 htc)
    clear htc
    go_wp2_with fail
    refine (behind_any _ _ _ _ (by omega)).mono ?_
    rintro e wd ⟨rfl, htd⟩
    have HTd := hide (HTc.out.trans0 htd)
    clear htd
    rw [HB0.out]
    go_wp2_with fail
    refine (sum_any _ ByteArray.empty hqz).mono ?_
    rintro e we ⟨rfl, hte⟩
    have HTe := hide (HTd.out.trans0 hte)
    clear hte
    go_wp2_with fail
    go_ret
    exact ⟨rfl, HTe.out⟩
  · have h1 : ¬ x < 0 := by omega
    go_wp2_with fail
    obtain rfl : p = s := by rw [HP.out]; simp
    obtain rfl : q = ByteArray.empty := by rw [HQ.out]; simp
    have HJ0 : Hid (zerI 0 (more 0#32 p) ^^^ more 0#32 ByteArray.empty = more 0#32 p) := hide HJ.out
    have HB0 : Hid (zerI 0 (more 0#32 p) ^^^ more 0#32 p = more 0#32 ByteArray.empty) := hide HB.out
    refine (sum_any _ p hst).mono ?_
    rintro e w2 ⟨rfl, ht2⟩
    have HT2 := hide (HT1.out.trans0 ht2)
    clear ht2
    go_wp2_with fail
    refine (new_any _).mono ?_
    rintro e w3 ⟨b, rfl, hb, ht3, hd3⟩
    have HT3 := hide (HT2.out.trans0 ht3)
    have hb' : w.heap.size ≤ b := by have := HT2.out.size; omega
    have HD3 := hide hd3
    clear ht3 hd3
    go_wp2_with fail
    refine (write_any _ b _ _ p hpz HD3.out).mono ?_
    rintro e w4 ⟨rfl, ht4, hd4⟩
    have HT4 := hide (HT3.out.trans ht4 (fun x hx => .inr (by simp at hx; omega)))
    have HD4 := hide hd4
    clear ht4 hd4
    go_wp2_with fail
    refine (write_any _ b _ _ ByteArray.empty hqz HD4.out).mono ?_
    rintro e w5 ⟨rfl, ht5, hd5⟩
    have HT5 := hide (HT4.out.trans ht5 (fun x hx => .inr (by simp at hx; omega)))
    have HD5 := hide hd5
    clear ht5 hd5
    go_wp2_with fail
    refine (dsum_any _ b _ _ HD5.out).mono ?_
    rintro e w6 ⟨rfl, rfl⟩
    rw [HM.out]
    go_wp2_with fail
    refine (sum_any _ p hpz).mono ?_
    rintro e w7 ⟨rfl, ht7⟩
    have HT7 := hide (HT5.out.trans0 ht7)
    clear ht7
    go_wp2_with fail
    refine (more_any _ _ ByteArray.empty hqz).mono ?_
    rintro e w8 ⟨rfl, ht8⟩
    have HT8 := hide (HT7.out.trans0 ht8)
    clear ht8
    rw [HM.out]
    go_wp2_with fail
    refine (sum_any _ p hpz).mono ?_
    rintro e w9 ⟨rfl, ht9⟩
    have HT9 := hide (HT8.out.trans0 ht9)
    clear ht9
    go_wp2_with fail
    refine (sum_any _ ByteArray.empty hqz).mono ?_
    rintro e wa ⟨rfl, hta⟩
    have HTa := hide (HT9.out.trans0 hta)
    clear hta
    go_wp2_with fail
    refine (join_any _ _ _ _ (by omega)).mono ?_
    rintro e wb ⟨rfl, htb⟩
    have HTb := hide (HTa.out.trans0 htb)
    clear htb
    rw [HJ0.out]
    go_wp2_with fail
    refine (sum_any _ p hpz).mono ?_
    rintro e wc ⟨rfl, htc⟩
    have HTc := hide (HTb.out.trans0 htc)
    clear htc
    go_wp2_with fail
    refine (behind_any _ _ _ _ (by omega)).mono ?_
    rintro e wd ⟨rfl, htd⟩
    have HTd := hide (HTc.out.trans0 htd)
    clear htd
    rw [HB0.out]
    go_wp2_with fail
    refine (sum_any _ ByteArray.empty hqz).mono ?_
    rintro e we ⟨rfl, hte⟩
    have HTe := hide (HTd.out.trans0 hte)
    clear hte
    go_wp2_with fail
    go_ret
    exact ⟨rfl, HTe.out⟩
theorem pieces_any (w : World) (s : ByteArray) (hs : s.size ≤ 140737488351232) (x : Int) : Calls Try.prog 9 #[.string s, .int .i64 x] w fun e w' => e = .returned (.bool true) ∧ Turn [] w w' := by
  by_cases h : x < 0 ∨ (s.size : Int) < x
  · exact pieces_core w s s.size hs (Nat.le_refl _) x (.inr ⟨rfl, h⟩)
  · exact pieces_core w s x.toNat hs (by omega) x (.inl (by omega))
end Go.Proofs.Ytmdjkpmjpngkdaa

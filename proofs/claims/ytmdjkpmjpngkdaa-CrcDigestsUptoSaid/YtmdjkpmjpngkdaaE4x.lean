/- The statements over one text: Forges, Pieces. -/
import Derived.Test.YtmdjkpmjpngkdaaE3x
namespace Go.Proofs.Ytmdjkpmjpngkdaa
set_option linter.unusedVariables false
set_option linter.unusedSimpArgs false
open Go.RowKit K

theorem fix_inj (x y z : BitVec 32) (h : fixS (fixR x y) = fixS (fixR x z)) : y = z := by rw [← fix_gives x y, h, fix_gives]
theorem str_beq_ne {s t : ByteArray} (h : ¬ s = t) : (s.toList == t.toList) = false := by
  rw [ByteArray.toList_eq, ByteArray.toList_eq]
  exact beq_eq_false_iff_ne.2 fun e => h (str_ext e)
theorem len_append (s t : ByteArray) : (s ++ t).size = s.size + t.size := ByteArray.size_append
set_option maxHeartbeats 400000 in
theorem forges_any (w : World) (s : ByteArray) (hs : s.size ≤ 140737488351232) (y z : BitVec 32) : Calls Try.prog 7 #[.string s, .int .u32 (u y), .int .u32 (u z)] w fun e w' => e = .returned (.bool true) ∧ Turn [] w w' := by
  have hst : s.size ≤ 9223372036854775807 := by omega
  obtain ⟨m, hm⟩ : ∃ m, m = more 0#32 s := ⟨_, rfl⟩
  obtain ⟨zs, hzs⟩ : ∃ t, t = fixS (fixR m y) := ⟨_, rfl⟩
  obtain ⟨ys, hys⟩ : ∃ t, t = fixS (fixR m z) := ⟨_, rfl⟩
  have z4' : zs.size = 4 := by rw [hzs]; rfl
  have y4' : ys.size = 4 := by rw [hys]; rfl
  have z4 : (zs.size : Int) = 4 := by omega
  have y4 : (ys.size : Int) = 4 := by omega
  have gy : more 0#32 (s ++ zs) = y := by rw [more_append 0#32 s zs _ (by simp), ← hm, hzs, fix_gives]
  have gz : more m ys = z := by rw [hys, fix_gives]
  have heq : (zs = ys) ↔ (y = z) := by rw [hzs, hys]; exact ⟨fix_inj _ _ _, fun h => by rw [h]⟩
  have hcat : (s ++ zs).size ≤ 9223372036854775807 := by rw [len_append]; omega
  have HM := hide hm
  have HZ := hide hzs
  have HY := hide hys
  have GY := hide gy
  have GZ := hide gz
  have HE := hide heq
  have HC := hide hcat
  clear hm hzs hys gy gz heq z4' y4' hcat
  go_enter Try.func7, Try.ntmps7
  go_wp2_with fail
  refine (awake_any _).mono ?_
  rintro e w1 ⟨rfl, ht1⟩
  have HT1 := hide ht1
  clear ht1
  go_wp2_with fail
  refine (sum_any _ s hst).mono ?_
  rintro e w2 ⟨rfl, ht2⟩
  have HT2 := hide (HT1.out.trans0 ht2)
  clear ht2
  rw [← HM.out]
  go_wp2_with fail
  refine (fix_any _ m y).mono ?_
  rintro e w3 ⟨rfl, ht3⟩
  have HT3 := hide (HT2.out.trans0 ht3)
  clear ht3
  rw [← HZ.out]
  go_wp2_with fail
  refine (sum_any _ s hst).mono ?_
  rintro e w4 ⟨rfl, ht4⟩
  have HT4 := hide (HT3.out.trans0 ht4)
  clear ht4
  rw [← HM.out]
  go_wp2_with fail
  refine (fix_any _ m z).mono ?_
  rintro e w5 ⟨rfl, ht5⟩
  have HT5 := hide (HT4.out.trans0 ht5)
  clear ht5
  rw [← HY.out]
  by_cases hyz : y = z
  · have he : zs = ys := HE.out.2 hyz
    subst he
    subst hyz
    go_wp2_with fail
    refine (sum_any _ _ HC.out).mono ?_
    rintro e w6 ⟨rfl, ht6⟩
    have HT6 := hide (HT5.out.trans0 ht6)
    clear ht6
    rw [GY.out]
    go_wp2_with fail
    refine (sum_any _ s hst).mono ?_
    rintro e w7 ⟨rfl, ht7⟩
    have HT7 := hide (HT6.out.trans0 ht7)
    clear ht7
    rw [← HM.out]
    go_wp2_with fail
    refine (more_any _ m _ (by omega)).mono ?_
    rintro e w8 ⟨rfl, ht8⟩
    have HT8 := hide (HT7.out.trans0 ht8)
    clear ht8
    rw [GZ.out]
    go_wp2_with fail
    go_ret
    exact ⟨rfl, HT8.out⟩
  · have he : ¬ zs = ys := fun h => hyz (HE.out.1 h)
    have hu : (u y == u z) = false := by simpa using fun h => hyz (u_inj h)
    have hb : (zs.toList == ys.toList) = false := str_beq_ne he
    clear he
    go_wp2_with fail
    refine (sum_any _ _ HC.out).mono ?_
    rintro e w6 ⟨rfl, ht6⟩
    have HT6 := hide (HT5.out.trans0 ht6)
    clear ht6
    rw [GY.out]
    go_wp2_with fail
    refine (sum_any _ s hst).mono ?_
    rintro e w7 ⟨rfl, ht7⟩
    have HT7 := hide (HT6.out.trans0 ht7)
    clear ht7
    rw [← HM.out]
    go_wp2_with fail
    refine (more_any _ m _ (by omega)).mono ?_
    rintro e w8 ⟨rfl, ht8⟩
    have HT8 := hide (HT7.out.trans0 ht8)
    clear ht8
    rw [GZ.out]
    go_wp2_with fail
    go_ret
    exact ⟨rfl, HT8.out⟩
end Go.Proofs.Ytmdjkpmjpngkdaa

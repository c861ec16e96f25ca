/- What the document fixes: awake. -/
import Derived.Test.YtmdjkpmjpngkdaaD2x
namespace Go.Proofs.Ytmdjkpmjpngkdaa
set_option linter.unusedVariables false
set_option linter.unusedSimpArgs false
open Go.RowKit K

def s14 : ByteArray := ⟨#[49, 50, 51, 52]⟩
def s59 : ByteArray := ⟨#[53, 54, 55, 56, 57]⟩
def s19 : ByteArray := ⟨#[49, 50, 51, 52, 53, 54, 55, 56, 57]⟩
theorem k19 : more 0#32 s19 = 3808858755#32 := by decide +kernel
theorem k14 : more (more 0#32 s14) s59 = 3808858755#32 := by decide +kernel
theorem kj : zerI 5 (more 0#32 s14) ^^^ more 0#32 s59 = 3808858755#32 := by decide +kernel
theorem kf : more 0#32 (fixS (fixR 0#32 3808858755#32)) = 3808858755#32 := by decide +kernel
theorem kt : T 1#32 = 4067132163#32 := by decide +kernel
theorem fixS_size (r : BitVec 32) : (fixS r).size = 4 := rfl
set_option maxRecDepth 100000 in
set_option maxHeartbeats 400000 in
theorem awake_any (w : World) : Calls Try.prog 12 #[] w fun e w' => e = .returned (.bool true) ∧ Turn [] w w' := by
  have z14 : (s14.size : Int) = 4 := rfl
  have z59 : (s59.size : Int) = 5 := rfl
  have k1 : u (more (more 0#32 s14) s59) = 3808858755 := by rw [k14]; rfl
  have k2 : u (more 0#32 s19) = 3808858755 := by rw [k19]; rfl
  have k3 : u (zerI 5 (more 0#32 s14) ^^^ more 0#32 s59) = 3808858755 := by rw [kj]; rfl
  have k4 : u (more 0#32 (fixS (fixR 0#32 3808858755#32))) = 3808858755 := by rw [kf]; rfl
  have k5 : u (T 1#32) = 4067132163 := by rw [kt]; rfl
  have hw9 : wrap64 (wrap64 (0 + 4) + 5) = 9 := by decide +kernel
  go_enter Try.func12, Try.ntmps12
  go_wp2_with fail
  refine (new_any _).mono ?_
  rintro e w1 ⟨b, rfl, hb, ht1, hd1⟩
  have HT1 := hide ht1
  have HD1 := hide hd1
  clear ht1 hd1
  go_wp2_with fail
  refine (write_any _ b 0#32 0 s14 (by decide) HD1.out).mono ?_
  rintro e w2 ⟨rfl, ht2, hd2⟩
  have HT2 := hide (HT1.out.trans ht2 (fun x hx => .inr (by simp at hx; omega)))
  have HD2 := hide hd2
  clear ht2 hd2
  go_wp2_with fail
  refine (write_any _ b _ _ s59 (by decide) HD2.out).mono ?_
  rintro e w3 ⟨rfl, ht3, hd3⟩
  have HT3 := hide (HT2.out.trans ht3 (fun x hx => .inr (by simp at hx; omega)))
  have HD3 := hide hd3
  clear ht3 hd3
  go_wp2_with fail
  refine (dsum_any _ b _ _ HD3.out).mono ?_
  rintro e w4 ⟨rfl, rfl⟩
  go_wp2_with fail
  refine (dlen_any _ b _ _ HD3.out).mono ?_
  rintro e w5 ⟨rfl, rfl⟩
  rw [z14, z59, hw9]
  go_wp2_with fail
  refine (sum_any _ s19 (by decide)).mono ?_
  rintro e w6 ⟨rfl, ht6⟩
  have HT6 := hide (HT3.out.trans0 ht6)
  clear ht6
  go_wp2_with fail
  refine (sum_any _ s14 (by decide)).mono ?_
  rintro e w7 ⟨rfl, ht7⟩
  have HT7 := hide (HT6.out.trans0 ht7)
  clear ht7
  go_wp2_with fail
  refine (sum_any _ s59 (by decide)).mono ?_
  rintro e w8 ⟨rfl, ht8⟩
  have HT8 := hide (HT7.out.trans0 ht8)
  clear ht8
  go_wp2_with fail
  refine (join_any _ _ _ 5 (by decide)).mono ?_
  rintro e w9 ⟨rfl, ht9⟩
  have HT9 := hide (HT8.out.trans0 ht9)
  clear ht9
  go_wp2_with fail
  refine (fix_any _ 0#32 3808858755#32).mono ?_
  rintro e wa ⟨rfl, hta⟩
  have HTa := hide (HT9.out.trans0 hta)
  clear hta
  go_wp2_with fail
  refine (more_any _ 0#32 _ (by rw [fixS_size]; decide)).mono ?_
  rintro e wb ⟨rfl, htb⟩
  have HTb := hide (HTa.out.trans0 htb)
  clear htb
  go_wp2_with fail
  refine (table_any _).mono ?_
  rintro e wc ⟨rfl, htc⟩
  have HTc := hide (HTb.out.trans0 htc)
  clear htc
  have hti : (Instr.index 30 (.agg (tab 256)) (.int .i64 1)).run Try.prog wc = .ok (.int .u32 (u (T 1#32))) wc := index30 wc (tab 256) 1 _ (by decide) (tab_get 256 1 (by decide) (by decide))
  generalize tab 256 = C at hti ⊢
  go_wp2_with fail
  go_ret
  exact ⟨rfl, HTc.out⟩
end Go.Proofs.Ytmdjkpmjpngkdaa

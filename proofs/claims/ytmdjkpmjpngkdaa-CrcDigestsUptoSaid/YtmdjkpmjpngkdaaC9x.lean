/- What n bytes 0 make of a register: the document's zeros, Join and Behind. -/
import Derived.Test.YtmdjkpmjpngkdaaC8x
namespace Go.Proofs.Ytmdjkpmjpngkdaa
set_option linter.unusedVariables false
set_option linter.unusedSimpArgs false
open Go.RowKit K

def idM : Mx := fun i => 1#32 <<< i
def oneM : Mx := fun i => T (1#32 <<< i)
/-- the document's halving of n: what is laid, the power, what is left. -/
def zloop : Nat → Mx → Mx → Nat → Mx
  | 0, out, _, _ => out
  | f + 1, out, one, n => if n = 0 then out else zloop f (if n % 2 = 1 then comp out one else out) (comp one one) (n / 2)
def zerosM (n : Nat) : Mx := zloop 64 idM oneM n
theorem one_shl (k : Nat) : IntKind.u32.wrap (2 ^ k) = u (1#32 <<< k) := by
  have := u_shl 1#32 k
  rw [show u 1#32 = 1 from rfl, Int.one_mul] at this
  exact this
theorem Blk.setRow_far {w : World} {g b : Nat} {t : TypeId} {cs c' : Array Value} (h : Blk w g t cs) (hb : g ≠ b) : Blk (w.setRow b c') g t cs := by
  unfold Blk at h ⊢
  simp only [World.setRow, Array.getElem?_modify]
  rw [if_neg (fun e => hb e.symm)]
  exact h
theorem zloop_zero (f : Nat) (out one : Mx) : zloop f out one 0 = out := by cases f <;> rfl
theorem zloop_pos (f : Nat) (out one : Mx) (m : Nat) (h : m ≠ 0) : zloop (f + 1) out one m = zloop f (if m % 2 = 1 then comp out one else out) (comp one one) (m / 2) := by
  rw [zloop, if_neg h]
def ZRel0 (w : World) (k : Nat) (wr : World) : Prop := Turn [] w wr ∧ Blk wr w.heap.size 59 (mat (matTo idM 0)) ∧ Blk wr (w.heap.size + 1) 59 (mat (matTo idM k)) ∧ Blk wr (w.heap.size + 2) 59 (mat (matTo oneM k))
def ZRel (w : World) (out one : Mx) (wr : World) : Prop := Turn [] w wr ∧ Blk wr w.heap.size 59 (mat (matTo idM 0)) ∧ Blk wr (w.heap.size + 1) 59 (mat out) ∧ Blk wr (w.heap.size + 2) 59 (mat one)
set_option maxRecDepth 100000 in
set_option maxHeartbeats 400000 in
theorem zeros_any (w : World) (n : Int) (hn : n ≤ 9223372036854775807) : Calls Try.prog 36 #[.int .i64 n] w fun e w' => e = .returned (.agg (mat (zerosM n.toNat))) ∧ Turn [] w w' := by
  have hz := (zero_of_info (zero59 idM)).1
  go_enter Try.func36, Try.ntmps36
  go_wp2_with fail
  go_loopw [5] (fun i wr => ∃ k : Nat, k ≤ 32 ∧ i = .int .i64 k ∧ ZRel0 w k wr) (fun i _ => 32 - (intOf i).toNat)
  case atStart =>
    refine ⟨0, Nat.zero_le _, rfl, (((Turn.refl _ _).alloc _).alloc _).alloc _, ((Blk.new _ _ _).alloc _).alloc _, (Blk.new_at (by simp) _ _).alloc _, Blk.new_at (by simp) _ _⟩
  case round =>
    obtain ⟨k, hk, rfl, ht, hb0, hb1, hb2⟩ := hrel
    by_cases hlt : k < 32
    · have hlt' : (k : Int) < 32 := by omega
      have hwk : IntKind.u64.wrap (k : Int) = (k : Int) := by rw [IntKind.wrap_u64]; omega
      have hmin : min k 32 = k := by omega
      have hsh := one_shl k
      have hf1 := hb1.frozen k
      have hc1 := (hb1.cell k).trans (mat_get _ k hlt)
      have HT := hide ht
      have HB0 := hide hb0
      have HB1 := hide hb1
      have HB2 := hide hb2
      clear ht hb0 hb1 hb2
      go_wp2_with fail
      refine (take_any _ (1#32 <<< k) 0#32 0 rfl).mono ?_
      rintro e w1 ⟨rfl, rfl⟩
      rw [BitVec.xor_zero]
      have HB2' := hide (HB2.out.far (p := ⟨w.heap.size + 1, k, none⟩) (by simp <;> omega) (.int .u32 (u (1#32 <<< k))))
      have hf2 := HB2'.out.frozen k
      have hc2 := (HB2'.out.cell k).trans (mat_get _ k hlt)
      go_wp2_with fail
      refine ⟨⟨k + 1, by omega, by go_num, (HT.out.setCell (.inr (by simp <;> omega)) _).setCell (.inr (by simp <;> omega)) _, (HB0.out.far (by simp <;> omega) _).far (by simp <;> omega) _, ?_, ?_⟩, by simp [intOf]; omega⟩
      · have := (HB1.out.set_ k (.int .u32 (u (idM k)))).far (p := ⟨w.heap.size + 2, k, none⟩) (by simp <;> omega) (.int .u32 (u (oneM k)))
        rw [matTo_set _ k hlt] at this
        exact this
      · have := (HB2.out.far (p := ⟨w.heap.size + 1, k, none⟩) (by simp <;> omega) (.int .u32 (u (idM k)))).set_ k (.int .u32 (u (oneM k)))
        rw [matTo_set _ k hlt] at this
        exact this
    · obtain rfl : k = 32 := by omega
      rw [matTo_all] at hb1 hb2
      have HT := hide ht
      have HB0 := hide hb0
      have HB1 := hide hb1
      have HB2 := hide hb2
      clear ht hb0 hb1 hb2
      go_wp2_with fail
      go_loopw [0] (fun q wr => ∃ (f : Nat) (m : Int) (out one : Mx), q = .int .i64 m ∧ m ≤ n ∧ m.toNat < 2 ^ f ∧ zloop f out one m.toNat = zerosM n.toNat ∧ ZRel w out one wr) (fun q _ => (intOf q).toNat)
      case atStart => exact ⟨64, n, idM, oneM, rfl, Int.le_refl _, by omega, rfl, HT.out, HB0.out, HB1.out, HB2.out⟩
      case round =>
        clear HB0 HB1 HB2 HT
        obtain ⟨f, m, out, one, rfl, hmn, hf, hzl, ht, hb0, hb1, hb2⟩ := hrel
        have HT := hide ht
        have HB0 := hide hb0
        have HB1 := hide hb1
        have HB2 := hide hb2
        have HZL := hide hzl
        clear ht hb0 hb1 hb2 hzl
        have hall := fun M => all_mat M
        have hsm := fun M => size_mat M
        have HA := hide hall
        have HS := hide hsm
        clear hall hsm
        by_cases hpos : 0 < m
        · obtain ⟨f, rfl⟩ : ∃ f', f = f' + 1 := ⟨f - 1, by rcases f with _ | f <;> simp at hf ⊢; omega⟩
          have hz2 := zloop_pos f out one m.toNat (by omega)
          rw [HZL.out] at hz2
          have hdiv : m.toNat / 2 = (m / 2).toNat := by omega
          have hf' : (m / 2).toNat < 2 ^ f := by rw [Nat.pow_succ] at hf; omega
          rw [hdiv] at hz2
          by_cases hodd : m % 2 = 1
          · rw [if_pos (show m.toNat % 2 = 1 by omega)] at hz2
            have HZ2 := hide hz2
            have HD := hide hdiv
            clear hz2 hdiv
            go_wp2_with (first | refine wpList_load_row rfl 59 (.tmp 3) rfl (w.heap.size + 1) rfl 59 (mat out) (0, 0) _ HB1.out Try.underlying59 rfl (size_mat _) ?_ | refine wpList_load_row rfl 59 (.tmp 4) rfl (w.heap.size + 2) rfl 59 (mat one) (0, 0) _ HB2.out Try.underlying59 rfl (size_mat _) ?_)
            refine (then_any _ out one).mono ?_
            rintro e w1 ⟨rfl, ht1⟩
            have HT1 := hide ht1
            have HB10 := hide (HB0.out.turn ht1 (by simp))
            have HB11 := hide (HB1.out.turn ht1 (by simp))
            have HB12 := hide (HB2.out.turn ht1 (by simp))
            clear ht1
            have HB22 := hide (Blk.setRow_far (b := w.heap.size + 1) (c' := mat (comp out one)) HB12.out (by omega))
            go_wp2_with (first | refine wpList_store_row rfl 59 (.tmp 3) (.tmp 28) rfl (w.heap.size + 1) (mat (comp out one)) rfl rfl 59 (mat out) HB11.out (size_mat _) (by rw [mat_size, mat_size]) (all_mat _) ?_ | refine wpList_load_row rfl 59 (.tmp 4) rfl (w.heap.size + 2) rfl 59 (mat one) (0, 0) _ HB22.out Try.underlying59 rfl (size_mat _) ?_)
            refine (then_any _ one one).mono ?_
            rintro e w2 ⟨rfl, ht2⟩
            have HT2 := hide ht2
            have HB32 := hide (HB22.out.turn ht2 (by simp))
            have HB31 := hide ((Blk.setRow_ (c' := mat (comp out one)) HB11.out).turn ht2 (by simp))
            have HB30 := hide ((Blk.setRow_far (b := w.heap.size + 1) (c' := mat (comp out one)) HB10.out (by omega)).turn ht2 (by simp))
            clear ht2
            go_wp2_with (first | refine wpList_store_row rfl 59 (.tmp 4) (.tmp 31) rfl (w.heap.size + 2) (mat (comp one one)) rfl rfl 59 (mat one) HB32.out (size_mat _) (by rw [mat_size, mat_size]) (all_mat _) ?_ | refine wp_store_row 59 (.tmp 4) (.tmp 31) rfl (w.heap.size + 2) (mat (comp one one)) rfl rfl 59 (mat one) HB32.out (size_mat _) (by rw [mat_size, mat_size]) (all_mat _) ?_)
            exact ⟨⟨_, _, _, _, _, _, _, _, _, _, _, _, _, _, ⟨f, m / 2, _, _, rfl, by omega, hf', HZ2.out.symm, Turn.setRow_ ((Turn.setRow_ (HT.out.trans0 HT1.out) (.inr (by omega)) _).trans0 HT2.out) (.inr (by omega)) _, Blk.setRow_far HB30.out (by omega), Blk.setRow_far HB31.out (by omega), Blk.setRow_ HB32.out⟩, rfl⟩, by simp [intOf]; omega⟩
          · rw [if_neg (show ¬ m.toNat % 2 = 1 by omega)] at hz2
            have heven : m % 2 = 0 := by omega
            have HZ2 := hide hz2
            have HD := hide hdiv
            clear hz2 hdiv hodd
            go_wp2_with (first | refine wpList_load_row rfl 59 (.tmp 4) rfl (w.heap.size + 2) rfl 59 (mat one) (0, 0) _ HB2.out Try.underlying59 rfl (size_mat _) ?_)
            refine (then_any _ one one).mono ?_
            rintro e w2 ⟨rfl, ht2⟩
            have HT2 := hide ht2
            have HB32 := hide (HB2.out.turn ht2 (by simp))
            have HB31 := hide (HB1.out.turn ht2 (by simp))
            have HB30 := hide (HB0.out.turn ht2 (by simp))
            clear ht2
            go_wp2_with (first | refine wpList_store_row rfl 59 (.tmp 4) (.tmp 31) rfl (w.heap.size + 2) (mat (comp one one)) rfl rfl 59 (mat one) HB32.out (size_mat _) (by rw [mat_size, mat_size]) (all_mat _) ?_ | refine wp_store_row 59 (.tmp 4) (.tmp 31) rfl (w.heap.size + 2) (mat (comp one one)) rfl rfl 59 (mat one) HB32.out (size_mat _) (by rw [mat_size, mat_size]) (all_mat _) ?_)
            exact ⟨⟨_, _, _, _, _, _, _, _, _, _, _, _, _, _, ⟨f, m / 2, _, _, rfl, by omega, hf', HZ2.out.symm, Turn.setRow_ (HT.out.trans0 HT2.out) (.inr (by omega)) _, Blk.setRow_far HB30.out (by omega), Blk.setRow_far HB31.out (by omega), Blk.setRow_ HB32.out⟩, rfl⟩, by simp [intOf]; omega⟩
        · have hz2 : out = zerosM n.toNat := by rw [← HZL.out, show m.toNat = 0 by omega, zloop_zero]
          have HZ2 := hide hz2
          clear hz2
          go_wp2_with (first | refine wpList_load_row rfl 59 (.tmp 3) rfl (w.heap.size + 1) rfl 59 (mat out) (0, 0) _ HB1.out Try.underlying59 rfl (size_mat _) ?_ | refine wpList_store_row rfl 59 (.tmp 2) (.tmp 34) rfl w.heap.size (mat out) rfl rfl 59 (mat (matTo idM 0)) HB0.out (size_mat _) (by rw [mat_size, mat_size]) (all_mat _) ?_)
          exact bodyPost_ret (v := .agg (mat out)) (results_cell_row rfl _ _ w.heap.size 59 (mat out) (0, 0) _ rfl (Blk.setRow_ HB0.out) Try.underlying59 rfl (size_mat _)) rfl ⟨by rw [HZ2.out], Turn.setRow_ HT.out (.inr (Nat.le_refl _)) _⟩
end Go.Proofs.Ytmdjkpmjpngkdaa

/- One matrix after another: the document's then. -/
import Derived.Test.YtmdjkpmjpngkdaaC7x
import Derived.Test.YtmdjkpmjpngkdaaTail
namespace Go.Proofs.Ytmdjkpmjpngkdaa
set_option linter.unusedVariables false
set_option linter.unusedSimpArgs false
open Go.RowKit K

/-- what is laid so far. -/
def matTo (M : Mx) (k : Nat) : Mx := fun i => if i < k then M i else 0#32
theorem matTo_set (M : Mx) (k : Nat) (hk : k < 32) : (mat (matTo M k)).setIfInBounds k (.int .u32 (u (M k))) = mat (matTo M (k + 1)) := by
  apply Array.ext_getElem?
  intro i
  rw [Array.getElem?_setIfInBounds]
  by_cases hik : k = i
  · subst hik
    simp [mat, matTo, hk]
  · rw [if_neg hik]
    by_cases hi : i < 32
    · have : (i < k) = (i < k + 1) := by apply propext; omega
      simp [mat, matTo, hi, this]
    · simp [mat, hi]
theorem matTo_all (M : Mx) : mat (matTo M 32) = mat M := by
  unfold mat
  refine congrArg List.toArray ?_
  apply List.map_congr_left
  intro i hi
  have : i < 32 := by simpa using hi
  simp [matTo, this]
theorem zero59 (M : Mx) : (Try.prog.info? 59).map (fun i => (i.zero, i.size)) = some (some (.agg (mat (matTo M 0))), 32) := by
  have h : mat (matTo M 0) = mat (fun _ => 0#32) := by
    rfl
  have h2 : (Try.prog.info? 59).map (fun i => (i.zero, i.size)) = some (some (.agg (mat (fun _ => 0#32))), 32) := by kernel_rfl
  rw [h, h2]
theorem size_mat (M : Mx) : (Try.prog.info? 59).map (·.size) = some (mat M).size := by rw [mat_size]; exact (zero_of_info (zero59 M)).2
def comp (M N : Mx) : Mx := fun i => app N (M i)
def HRel (w : World) (M N : Mx) (k : Nat) (wr : World) : Prop := Turn [] w wr ∧ Blk wr w.heap.size 59 (mat M) ∧ Blk wr (w.heap.size + 1) 59 (mat N) ∧ Blk wr (w.heap.size + 2) 59 (mat (matTo (comp M N) 0)) ∧ Blk wr (w.heap.size + 3) 59 (mat (matTo (comp M N) k))
set_option maxHeartbeats 400000 in
theorem then_any (w : World) (M N : Mx) : Calls Try.prog 39 #[.agg (mat M), .agg (mat N)] w fun e w' => e = .returned (.agg (mat (comp M N))) ∧ Turn [] w w' := by
  have hz := (zero_of_info (zero59 (comp M N))).1
  go_enter Try.func39, Try.ntmps39
  go_wp2_with fail
  go_loopw [6] (fun i wr => ∃ k : Nat, k ≤ 32 ∧ i = .int .i64 k ∧ HRel w M N k wr) (fun i _ => 32 - (intOf i).toNat)
  case atStart =>
    refine ⟨0, Nat.zero_le _, rfl, ((((Turn.refl _ _).alloc _).alloc _).alloc _).alloc _, (((Blk.new _ _ _).alloc _).alloc _).alloc _, ((Blk.new_at (by simp) _ _).alloc _).alloc _, (Blk.new_at (by simp) _ _).alloc _, Blk.new_at (by simp) _ _⟩
  case round =>
    obtain ⟨k, hk, rfl, ht, hb0, hb1, hb2, hb3⟩ := hrel
    by_cases hlt : k < 32
    · have hlt' : (k : Int) < 32 := by omega
      have HT := hide ht
      have HB0 := hide hb0
      have HB1 := hide hb1
      have HB2 := hide hb2
      have HB3 := hide hb3
      clear ht hb0 hb1 hb2 hb3
      have hcm := (HB0.out.cell k).trans (mat_get M k hlt)
      have hfo := HB3.out.frozen k
      have hco := (HB3.out.cell k).trans (mat_get _ k hlt)
      go_wp2_with fail
      have hl0 := HB0.out.lt
      refine wp_region_later_tail (w0 := wr) 7 (Turn.refl _ _) (by kernel_rfl) (by kernel_rfl) ?_
      dsimp only [List.take, List.drop]
      repeat (first | (refine quiet_load_row rfl 59 (.tmp 3) rfl (w.heap.size + 1) rfl 59 (mat N) (0, 0) _ (fun w' h => HB1.out.turn (later_out h) (by simp)) Try.underlying59 rfl (size_mat N) ?_; simp only [Act.put, List.setIfInBounds_toArray, List.set_cons_succ, List.set_cons_zero]) | go_big_quiet_step (first | (go_at_call 37; exact calls_later (of_any _ _ _))))
      refine wpQuiet_nil ?_
      intro w8 hw8
      have ht8 := later_out hw8
      have hf8 := (HB3.out.turn ht8 (by simp)).frozen k
      have hc8 := ((HB3.out.turn ht8 (by simp)).cell k).trans (mat_get _ k hlt)
      have HT8 := hide ht8
      clear hw8 ht8
      go_wp2_with fail
      refine ⟨⟨k + 1, by omega, by go_num, (HT.out.trans0 HT8.out).setCell (.inr (by simp <;> omega)) _, (HB0.out.turn HT8.out (by simp)).far (by simp <;> omega) _, (HB1.out.turn HT8.out (by simp)).far (by simp <;> omega) _, (HB2.out.turn HT8.out (by simp)).far (by simp <;> omega) _, ?_⟩, by simp [intOf]; omega⟩
      have := (HB3.out.turn HT8.out (by simp)).set_ k (.int .u32 (u (app N (M k))))
      rw [show app N (M k) = comp M N k from rfl, matTo_set (comp M N) k hlt] at this
      exact this
    · obtain rfl : k = 32 := by omega
      have hst := size_mat (comp M N)
      have hall := all_mat (comp M N)
      have hsz : (mat (matTo (comp M N) 0)).size = (mat (comp M N)).size := by rw [mat_size, mat_size]
      rw [matTo_all] at hb3
      generalize hC : mat (comp M N) = C at hb3 hst hall hsz
      generalize mat (matTo (comp M N) 0) = Z at hb2 hsz
      have HC := hide hC
      have HT := hide ht
      have HB2 := hide hb2
      have HB3 := hide hb3
      have HS := hide hst
      have HA := hide hall
      have HZ := hide hsz
      clear hC hst hall hsz ht hb0 hb1 hb2 hb3 hk hlt
      set_option maxRecDepth 100000 in go_wp2_with (first | refine wpList_load_row rfl 59 (.tmp 5) rfl (w.heap.size + 3) rfl 59 C (0, 0) _ HB3.out Try.underlying59 rfl HS.out ?_ | refine wpList_store_row rfl 59 (.tmp 4) (.tmp 18) rfl (w.heap.size + 2) C rfl rfl 59 Z HB2.out HS.out HZ.out HA.out ?_)
      exact bodyPost_ret (v := .agg C) (results_cell_row rfl _ _ (w.heap.size + 2) 59 C (0, 0) _ rfl (Blk.setRow_ HB2.out) Try.underlying59 rfl HS.out) rfl ⟨by rw [← HC.out], Turn.setRow_ HT.out (.inr (by omega)) _⟩
end Go.Proofs.Ytmdjkpmjpngkdaa

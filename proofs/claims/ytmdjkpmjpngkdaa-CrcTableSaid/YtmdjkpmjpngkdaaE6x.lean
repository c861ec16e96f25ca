/- The closed statement: the table. -/
import Derived.Test.YtmdjkpmjpngkdaaE1x
import Derived.ChangeKeysEq
namespace Go.Proofs.Ytmdjkpmjpngkdaa
set_option linter.unusedVariables false
set_option linter.unusedSimpArgs false
open Go.RowKit K

theorem eq_items (d : Nat) (w : World) (C : Array Value) (hC : ∀ j < 256, ∃ a : Int, C[j]? = some (.int .u32 a)) : ∀ is : List Nat, (∀ j ∈ is, j < 256) → (Op.eqItems (d + 1) 23 1 C C is).run Try.prog w = .ok true w := by
  intro is
  induction is with
  | nil => intro _; simp [Op.eqItems]
  | cons j is ih =>
    intro h
    obtain ⟨a, ha⟩ := hC j (h j (by simp))
    have hp : (part 23 C (j * 1)).run Try.prog w = .ok (.int .u32 a) w := by
      rw [Nat.mul_one]
      simp [part, Try.isAgg23, ha]
    have he : (Op.equalIn (d + 1) 23 (.int .u32 a) (.int .u32 a)).run Try.prog w = .ok true w := by
      simp [Op.equalIn, run_underlying Try.underlying23]
    simp only [Op.eqItems, Sem.run_bind, hp, he, Result.andThen_ok]
    simpa using ih (fun k hk => h k (by simp [hk]))
theorem cells23 : Try.prog.cellsOf 23 = 1 := by kernel_rfl
theorem info23 : ∃ i, Try.prog.info? 23 = some i := by
  cases h : Try.prog.info? 23 with
  | some i => exact ⟨i, rfl⟩
  | none =>
    have : (Try.prog.info? 23).isSome = true := by kernel_rfl
    rw [h] at this
    cases this
theorem eq_tab (d : Nat) (w : World) (C : Array Value) (hC : ∀ j < 256, ∃ a : Int, C[j]? = some (.int .u32 a)) : (Op.equalIn (d + 2) 30 (.agg C) (.agg C)).run Try.prog w = .ok true w := by
  obtain ⟨i, hi⟩ := info23
  rw [run_equalIn_array w (d + 1) C C Try.underlying30 hi, cells23]
  exact eq_items d w C hC _ (fun j hj => by simpa using hj)
theorem equal_tab (w : World) (C : Array Value) (hC : ∀ j < 256, ∃ a : Int, C[j]? = some (.int .u32 a)) : (Op.equal 30 (.agg C) (.agg C)).run Try.prog w = .ok true w := eq_tab 9998 w C hC
theorem neq_tab (w : World) (C : Array Value) (hC : ∀ j < 256, ∃ a : Int, C[j]? = some (.int .u32 a)) : (binOp .neq 30 (.agg C) (.agg C)).run Try.prog w = .ok (.bool false) w := by
  simp only [binOp, Sem.run_bind, equal_tab w C hC, Result.andThen_ok, Sem.run_pure]
  rfl
theorem eql_tab (w : World) (C : Array Value) (hC : ∀ j < 256, ∃ a : Int, C[j]? = some (.int .u32 a)) : (binOp .eql 30 (.agg C) (.agg C)).run Try.prog w = .ok (.bool true) w := by
  simp only [binOp, Sem.run_bind, equal_tab w C hC, Result.andThen_ok, Sem.run_pure]
set_option maxRecDepth 100000 in
set_option maxHeartbeats 400000 in
theorem tables_any (w : World) : Calls Try.prog 5 #[] w fun e w' => e = .returned (.bool true) ∧ Turn [] w w' := by
  have hz2 := (zero_of_info zero30).1
  go_enter Try.func5, Try.ntmps5
  go_wp2_with fail
  refine (awake_any _).mono ?_
  rintro e w1 ⟨rfl, ht1⟩
  have HT1 := hide ht1
  clear ht1
  go_wp2_with fail
  refine (table_any _).mono ?_
  rintro e w2 ⟨rfl, ht2⟩
  have HT2 := hide (HT1.out.trans0 ht2)
  have hst := size_tab 256
  have hall := all_tab 256
  have hsz : zeroT.size = (tab 256).size := by rw [tab_size]; simp [zeroT]
  have hent : ∀ j < 256, ∃ a : Int, (tab 256)[j]? = some (.int .u32 a) := fun j hj => ⟨_, tab_get 256 j hj hj⟩
  obtain ⟨C, hC⟩ : ∃ C, C = tab 256 := ⟨_, rfl⟩
  rw [← hC] at hst hall hsz hent ⊢
  have HC := hide hC
  have HS := hide hst
  have HA := hide hall
  have HZ := hide hsz
  have HE := hide hent
  have hrt : ∀ w', Calls Try.prog 20 #[] w' fun e w'' => e = .returned (.agg C) ∧ Turn [] w' w'' := fun w' => by rw [hC]; exact rtable_any w'
  have HRT := hide hrt
  have hpt : ∀ w', Calls Try.prog 19 #[] w' fun e w'' => e = .returned (.agg C) ∧ Turn [] w' w'' := fun w' => by rw [hC]; exact table_any w'
  have HPT := hide hpt
  clear hrt hpt
  clear hC hst hall hsz hent ht2
  have hcc : C.size = 256 := by rw [HC.out, tab_size]
  have HCC := hide hcc
  clear hcc
  go_wp2_with (refine wpList_store_row rfl 30 (.tmp 1) (.tmp 5) rfl w2.heap.size C rfl rfl 30 zeroT (Blk.new w2 30 zeroT) HS.out HZ.out HA.out ?_)
  rw [World.setRow_alloc_new]
  have HB := hide (Blk.new w2 30 C)
  have HTb := hide (HT2.out.alloc (.cells C 30))
  generalize w2.alloc (.cells C 30) = w3 at HB HTb ⊢
  refine wp_region_later (w0 := w3) (Turn.refl _ _) (by kernel_rfl) (by kernel_rfl) ?_
  refine quiet_load_row rfl 30 (.tmp 1) rfl w2.heap.size rfl 30 C (0, 0) _ (fun w' h => HB.out.turn (later_out h) (by simp)) Try.underlying30 rfl HS.out ?_
  simp only [Act.put, List.setIfInBounds_toArray, List.set_cons_succ, List.set_cons_zero]
  have heq : ∀ w', (binOp .neq 30 (.agg C) (.agg C)).run Try.prog w' = .ok (.bool false) w' := fun w' => neq_tab w' C HE.out
  have heq2 : ∀ w', (binOp .eql 30 (.agg C) (.agg C)).run Try.prog w' = .ok (.bool true) w' := fun w' => eql_tab w' C HE.out
  repeat (go_big_quiet_step (first | (go_at_call 20; exact calls_later (HRT.out _))))
  refine wpQuiet_nil ?_
  intro w8 hw8
  have HT8 := hide (later_out hw8)
  clear hw8
  go_wp2_with fail
  have HT0 := hide ((HTb.out).trans0 HT8.out)
  have HB8 := hide (HB.out.turn HT8.out (by simp))
  have hl2 : w.heap.size ≤ w2.heap.size := HT2.out.size
  go_loopw [2] (fun i wr => ∃ (k : Nat) (D : Array Value), k ≤ 256 ∧ i = .int .i64 k ∧ D.size = 256 ∧ Turn [] w wr ∧ Blk wr w2.heap.size 30 D) (fun i _ => 256 - (intOf i).toNat)
  case atStart => exact ⟨0, C, Nat.zero_le _, rfl, HCC.out, HT0.out, HB8.out⟩
  case round =>
    obtain ⟨k, D, hk, rfl, hD, ht, hb⟩ := hrel
    by_cases hlt : k < 256
    · have hlt' : (k : Int) < 256 := by omega
      have hf := hb.frozen k
      obtain ⟨v, hv⟩ : ∃ v, D[k]? = some v := ⟨_, Array.getElem?_eq_getElem (by rw [hD]; exact hlt)⟩
      have hc := (hb.cell k).trans hv
      clear hv
      have HT := hide ht
      have HBk := hide hb
      have HD := hide hD
      clear ht hb hD
      go_wp2_with fail
      exact ⟨⟨k + 1, _, by omega, by go_num, by rw [Array.size_setIfInBounds]; exact HD.out, HT.out.setCell (.inr hl2) _, HBk.out.set_ k _⟩, by simp [intOf]; omega⟩
    · obtain rfl : k = 256 := by omega
      have HT := hide ht
      have k2 : u (more 0#32 s19) = 3808858755 := by rw [k19]; rfl
      clear ht hb hD hk hlt
      go_wp2_with fail
      refine (HPT.out _).mono ?_
      rintro e w4 ⟨rfl, ht4⟩
      have HT4 := hide (HT.out.trans0 ht4)
      clear ht4
      go_wp2_with fail
      refine (HRT.out _).mono ?_
      rintro e w5 ⟨rfl, ht5⟩
      have HT5 := hide (HT4.out.trans0 ht5)
      clear ht5
      go_wp2_with fail
      refine (sum_any _ s19 (by decide)).mono ?_
      rintro e w6 ⟨rfl, ht6⟩
      have HT6 := hide (HT5.out.trans0 ht6)
      clear ht6
      go_wp2_with fail
      go_ret
      exact ⟨rfl, HT6.out⟩
end Go.Proofs.Ytmdjkpmjpngkdaa

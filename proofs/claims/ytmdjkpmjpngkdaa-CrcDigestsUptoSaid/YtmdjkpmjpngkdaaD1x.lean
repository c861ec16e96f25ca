/- What n bytes 0 make of a register: the program's shift. -/
import Derived.Test.YtmdjkpmjpngkdaaD0x
namespace Go.Proofs.Ytmdjkpmjpngkdaa
set_option linter.unusedVariables false
set_option linter.unusedSimpArgs false
open Go.RowKit K

theorem zero61 (M : Mx) : (Try.prog.info? 61).map (fun i => (i.zero, i.size)) = some (some (.agg (mat (matTo M 0))), 32) := by
  have h : mat (matTo M 0) = mat (fun _ => 0#32) := by
    rfl
  have h2 : (Try.prog.info? 61).map (fun i => (i.zero, i.size)) = some (some (.agg (mat (fun _ => 0#32))), 32) := by kernel_rfl
  rw [h, h2]
theorem size_mat61 (M : Mx) : (Try.prog.info? 61).map (·.size) = some (mat M).size := by rw [mat_size]; exact (zero_of_info (zero61 M)).2
/-- the matrix of one byte 0: laid so far; the table behind it. -/
def SRel0 (w : World) (g : Nat) (C : Array Value) (k : Nat) (wr : World) : Prop := Turn [] w wr ∧ Blk wr w.heap.size 61 (mat (matTo oneM k)) ∧ Blk wr g 30 C
def SRel (w : World) (m : Mx) (wr : World) : Prop := Turn [] w wr ∧ Blk wr w.heap.size 61 (mat m)
def QRel (w : World) (b : Nat) (m : Mx) (k : Nat) (wr : World) : Prop := Turn [] w wr ∧ Blk wr w.heap.size 61 (mat m) ∧ Blk wr b 61 (mat (matTo (comp m m) k))
theorem i64_and1 (m : Int) (h0 : 0 ≤ m) (h : m ≤ 9223372036854775807) : bits .and .i64 m 1 = m % 2 := by
  obtain ⟨j, rfl⟩ := Int.eq_ofNat_of_zero_le h0
  show IntKind.i64.wrap ((BitVec.ofInt 64 (j : Int) &&& BitVec.ofInt 64 1).toNat : Int) = _
  rw [BitVec.toNat_and, BitVec.ofInt_natCast, BitVec.toNat_ofNat, Nat.mod_eq_of_lt (by omega), show (BitVec.ofInt 64 1).toNat = 2 ^ 1 - 1 from rfl, Nat.and_two_pow_sub_one_eq_mod]
  rw [IntKind.wrap_i64]
  omega
theorem one_low (k : Nat) : u (1#32 <<< k) % 256 = ((((1#32 <<< k).toNat % 256) : Nat) : Int) := by unfold u; omega
set_option maxRecDepth 100000 in
set_option maxHeartbeats 400000 in
theorem shift_any (w : World) (r : BitVec 32) (n : Int) (hn : n ≤ 9223372036854775807) : Calls Try.prog 35 #[.int .u32 (u r), .int .i64 n] w fun e w' => e = .returned (.int .u32 (u (sloop 64 oneM r n.toNat))) ∧ Turn [] w w' := by
  have hz := (zero_of_info (zero61 oneM)).1
  have hz2 := (zero_of_info zero30).1
  go_enter Try.func35, Try.ntmps35
  go_wp2_with fail
  refine (table_any _).mono ?_
  rintro e w1 ⟨rfl, ht1⟩
  have hst := size_tab 256
  have hall := all_tab 256
  have hsz : zeroT.size = (tab 256).size := by rw [tab_size]; simp [zeroT]
  generalize hC : tab 256 = C at hst hall hsz ⊢
  have HC := hide hC
  have HT1 := hide ((((Turn.refl [] w).alloc (.cells (mat (matTo oneM 0)) 61))).trans0 ht1)
  have HM1 := hide ((Blk.new w 61 (mat (matTo oneM 0))).turn ht1 (by simp))
  have HS := hide hst
  have HA := hide hall
  have HZ := hide hsz
  have hl1 : w.heap.size < w1.heap.size := HM1.out.lt
  clear hC hst hall hsz ht1
  go_wp2_with (refine wpList_store_row rfl 30 (.tmp 6) (.tmp 11) rfl w1.heap.size C rfl rfl 30 zeroT (Blk.new w1 30 zeroT) HS.out HZ.out HA.out ?_)
  rw [World.setRow_alloc_new]
  go_loopw [12] (fun i wr => ∃ k : Nat, k ≤ 32 ∧ i = .int .i64 k ∧ SRel0 w w1.heap.size C k wr) (fun i _ => 32 - (intOf i).toNat)
  case atStart => exact ⟨0, Nat.zero_le _, rfl, HT1.out.alloc _, HM1.out.alloc _, Blk.new _ _ _⟩
  case round =>
    obtain ⟨k, hk, rfl, ht, hb0, hb1⟩ := hrel
    by_cases hlt : k < 32
    · have hlt' : (k : Int) < 32 := by omega
      have hmin : min k 32 = k := by omega
      have hsh := one_shl k
      have hix := one_low k
      have hstep := T_split (1#32 <<< k)
      have hnn : (1#32 <<< k).toNat % 256 < 256 := Nat.mod_lt _ (by decide)
      have hti := tab_get 256 _ hnn hnn
      rw [HC.out] at hti
      have hc5 := (hb1.cell _).trans hti
      obtain ⟨n0, hn0⟩ : ∃ n0, n0 = (1#32 <<< k).toNat % 256 := ⟨_, rfl⟩
      rw [← hn0] at hix hstep hnn hc5
      have hf0 := hb0.frozen k
      have hc0 := (hb0.cell k).trans (mat_get _ k hlt)
      have hn0' : (n0 : Int) < 256 := by omega
      have HT := hide ht
      have HB0 := hide hb0
      have HB1 := hide hb1
      have HST := hide hstep
      clear ht hb0 hb1 hti hn0 hstep
      go_wp2_with fail
      refine ⟨⟨k + 1, by omega, by go_num, HT.out.setCell (.inr (by simp)) _, ?_, HB1.out.far (by simp <;> omega) _⟩, by simp [intOf]; omega⟩
      have := HB0.out.set_ k (.int .u32 (u (oneM k)))
      rw [matTo_set _ k hlt] at this
      rw [HST.out]
      exact this
    · obtain rfl : k = 32 := by omega
      rw [matTo_all] at hb0
      have HT := hide ht
      have HB0 := hide hb0
      clear ht hb0 hb1
      go_wp2_with fail
      go_loopw [0, 1] (fun q0 q1 wr => ∃ (f : Nat) (m : Int) (M : Mx) (r' : BitVec 32), q0 = .int .u32 (u r') ∧ q1 = .int .i64 m ∧ m ≤ n ∧ m.toNat < 2 ^ f ∧ sloop f M r' m.toNat = sloop 64 oneM r n.toNat ∧ SRel w M wr) (fun _ q _ => (intOf q).toNat)
      case atStart => exact ⟨64, n, oneM, r, rfl, rfl, Int.le_refl _, by omega, rfl, HT.out, HB0.out⟩
      case round =>
        clear HB0 HT
        obtain ⟨f, m, M, r', rfl, rfl, hmn, hf, hsl, ht, hb0⟩ := hrel
        have HT := hide ht
        have HB0 := hide hb0
        have HSL := hide hsl
        have hl0 := hb0.lt
        clear ht hb0 hsl
        by_cases hpos : 0 < m
        · obtain ⟨f, rfl⟩ : ∃ f', f = f' + 1 := ⟨f - 1, by rcases f with _ | f <;> simp at hf ⊢; omega⟩
          have hz3 := sloop_pos f M r' m.toNat (by omega)
          rw [HSL.out] at hz3
          have hdiv : m.toNat / 2 = (m / 2).toNat := by omega
          have hf' : (m / 2).toNat < 2 ^ f := by rw [Nat.pow_succ] at hf; omega
          rw [hdiv] at hz3
          have hand := i64_and1 m (by omega) (by omega)
          obtain ⟨r2, hr2⟩ : ∃ r2, r2 = if m.toNat % 2 = 1 then app M r' else r' := ⟨_, rfl⟩
          rw [← hr2] at hz3
          have HZ3 := hide hz3
          have HD := hide hdiv
          clear hz3 hdiv
          by_cases hodd : m % 2 = 1
          · rw [if_pos (show m.toNat % 2 = 1 by omega)] at hr2
            have HR2 := hide hr2
            clear hr2
            rw [hodd] at hand
            go_wp2_with fail
            refine (times_any _ _ M r' HB0.out).mono ?_
            rintro e w2 ⟨rfl, rfl⟩
            rw [← HR2.out]
            go_wp2_with fail
            go_loopw [36] (fun q w5 => ∃ k : Nat, k ≤ 32 ∧ q = .int .i64 k ∧ QRel w w2.heap.size M k w5) (fun q _ => 32 - (intOf q).toNat)
            case atStart => exact ⟨0, Nat.zero_le _, rfl, HT.out.alloc _, HB0.out.alloc _, Blk.new _ _ _⟩
            case round =>
              obtain ⟨k, hk, rfl, ht, hb0, hb1⟩ := hrel
              by_cases hlt : k < 32
              · have hlt' : (k : Int) < 32 := by omega
                have hc0 := (hb0.cell k).trans (mat_get _ k hlt)
                have hf1 := hb1.frozen k
                have hc1 := (hb1.cell k).trans (mat_get _ k hlt)
                have HT5 := hide ht
                have HB5 := hide hb0
                have HB6 := hide hb1
                clear ht hb0 hb1
                go_wp2_with fail
                refine (times_any _ _ M (M k) HB5.out).mono ?_
                rintro e w6 ⟨rfl, rfl⟩
                go_wp2_with fail
                refine ⟨⟨k + 1, by omega, by go_num, HT5.out.setCell (.inr (by simp <;> omega)) _, HB5.out.far (by simp <;> omega) _, ?_⟩, by simp [intOf]; omega⟩
                have := HB6.out.set_ k (.int .u32 (u (comp M M k)))
                rw [matTo_set _ k hlt] at this
                exact this
              · obtain rfl : k = 32 := by omega
                rw [matTo_all] at hb1
                have HT5 := hide ht
                have HB5 := hide hb0
                have HB6 := hide hb1
                clear ht hb0 hb1
                go_wp2_with (first | refine wpList_load_row rfl 61 (.tmp 9) rfl w2.heap.size rfl 61 (mat (comp M M)) (0, 0) _ HB6.out Try.underlying61 rfl (size_mat61 _) ?_ | refine wpList_store_row rfl 61 (.tmp 5) (.tmp 46) rfl w.heap.size (mat (comp M M)) rfl rfl 61 (mat M) HB5.out (size_mat61 _) (by rw [mat_size, mat_size]) (all_mat _) ?_)
                exact ⟨⟨_, _, _, _, _, _, _, _, _, _, _, _, _, _, _, _, _, _, _, _, _, _, _, _, ⟨f, m / 2, comp M M, r2, rfl, rfl, by omega, hf', HZ3.out.symm, Turn.setRow_ HT5.out (.inr (Nat.le_refl _)) _, Blk.setRow_ HB5.out⟩, rfl⟩, by simp [intOf]; omega⟩
          · rw [if_neg (show ¬ m.toNat % 2 = 1 by omega)] at hr2
            have HR2 := hide hr2
            have heven : m % 2 = 0 := by omega
            clear hr2
            rw [heven] at hand
            obtain ⟨w2, hw2⟩ : ∃ x, x = wr := ⟨wr, rfl⟩
            subst hw2
            go_wp2_with fail
            go_loopw [36] (fun q w5 => ∃ k : Nat, k ≤ 32 ∧ q = .int .i64 k ∧ QRel w w2.heap.size M k w5) (fun q _ => 32 - (intOf q).toNat)
            case atStart => exact ⟨0, Nat.zero_le _, rfl, HT.out.alloc _, HB0.out.alloc _, Blk.new _ _ _⟩
            case round =>
              obtain ⟨k, hk, rfl, ht, hb0, hb1⟩ := hrel
              by_cases hlt : k < 32
              · have hlt' : (k : Int) < 32 := by omega
                have hc0 := (hb0.cell k).trans (mat_get _ k hlt)
                have hf1 := hb1.frozen k
                have hc1 := (hb1.cell k).trans (mat_get _ k hlt)
                have HT5 := hide ht
                have HB5 := hide hb0
                have HB6 := hide hb1
                clear ht hb0 hb1
                go_wp2_with fail
                refine (times_any _ _ M (M k) HB5.out).mono ?_
                rintro e w6 ⟨rfl, rfl⟩
                go_wp2_with fail
                refine ⟨⟨_, _, _, _, _, _, _, _, _, _, _, ⟨k + 1, by omega, rfl, HT5.out.setCell (.inr (by simp <;> omega)) _, HB5.out.far (by simp <;> omega) _, ?_⟩, rfl⟩, by simp [intOf]; omega⟩
                have := HB6.out.set_ k (.int .u32 (u (comp M M k)))
                rw [matTo_set _ k hlt] at this
                exact this
              · obtain rfl : k = 32 := by omega
                rw [matTo_all] at hb1
                have HT5 := hide ht
                have HB5 := hide hb0
                have HB6 := hide hb1
                clear ht hb0 hb1
                go_wp2_with (first | refine wpList_load_row rfl 61 (.tmp 9) rfl w2.heap.size rfl 61 (mat (comp M M)) (0, 0) _ HB6.out Try.underlying61 rfl (size_mat61 _) ?_ | refine wpList_store_row rfl 61 (.tmp 5) (.tmp 46) rfl w.heap.size (mat (comp M M)) rfl rfl 61 (mat M) HB5.out (size_mat61 _) (by rw [mat_size, mat_size]) (all_mat _) ?_)
                exact ⟨⟨_, _, _, _, _, _, _, _, _, _, _, _, _, _, _, _, _, _, _, _, _, _, _, _, ⟨f, m / 2, comp M M, r', rfl, rfl, by omega, hf', by rw [HZ3.out, HR2.out], Turn.setRow_ HT5.out (.inr (Nat.le_refl _)) _, Blk.setRow_ HB5.out⟩, rfl⟩, by simp [intOf]; omega⟩
        · have hz2 : r' = sloop 64 oneM r n.toNat := by rw [← HSL.out, show m.toNat = 0 by omega, sloop_zero]
          have HZ2 := hide hz2
          clear hz2
          go_wp2_with fail
          go_ret
          exact ⟨by rw [← HZ2.out]; rfl, HT.out⟩
end Go.Proofs.Ytmdjkpmjpngkdaa

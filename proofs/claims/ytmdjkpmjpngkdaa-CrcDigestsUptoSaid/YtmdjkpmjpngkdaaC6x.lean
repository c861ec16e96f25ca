/- The four bytes that make one sum another: the program's Fix, walked. -/
import Derived.Test.YtmdjkpmjpngkdaaC5x
namespace Go.Proofs.Ytmdjkpmjpngkdaa
set_option linter.unusedVariables false
set_option linter.unusedSimpArgs false
open Go.RowKit K

theorem zero54 : (Try.prog.info? 54).map (fun i => (i.zero, i.size)) = some (some (.agg (byT 0)), 256) := by kernel_rfl
theorem fix_eq (x y : BitVec 32) : back4 4 (~~~ y) ^^^ ~~~ x = fixR x y := by
  unfold fixR
  rw [← ones_xor x, ← ones_xor (_ ^^^ x), ← BitVec.xor_assoc, BitVec.xor_comm _ (-1#32), BitVec.xor_assoc]
theorem index30 (w : World) (C : Array Value) (k : Nat) (v : Value) (hk : k < 256) (hc : C[k]? = some v) : (Instr.index 30 (.agg C) (.int .i64 (k : Int))).run Try.prog w = .ok v w := by
  have h1 : (0 : Int) ≤ k ∧ (k : Int) < 256 := by omega
  simp [Instr.index, run_underlying Try.underlying30, h1, Try.sizeOf23, part, Try.isAgg23, hc, asIntOf]
  intro h
  omega
def FRel (w : World) (g : Nat) (C : Array Value) (k : Nat) (wr : World) : Prop := Turn [] w wr ∧ Blk wr g 30 C ∧ Blk wr (g + 1) 54 (byT k)
set_option maxRecDepth 100000 in
set_option maxHeartbeats 400000 in
theorem fix_any (w : World) (x y : BitVec 32) : Calls Try.prog 17 #[.int .u32 (u x), .int .u32 (u y)] w fun e w' => e = .returned (.string (fixS (fixR x y))) ∧ Turn [] w w' := by
  have hz := (zero_of_info zero30).1
  have hz2 := (zero_of_info zero54).1
  have hsg : IntKind.u32.signed = false := rfl
  go_enter Try.func17, Try.ntmps17
  go_wp2_with fail
  refine (table_any _).mono ?_
  rintro e w1 ⟨rfl, ht1⟩
  have hst := size_tab 256
  have hall := all_tab 256
  have hsz : zeroT.size = (tab 256).size := by rw [tab_size]; simp [zeroT]
  generalize hC : tab 256 = C at hst hall hsz ⊢
  have HC := hide hC
  have HT1 := hide ht1
  have HS := hide hst
  have HA := hide hall
  have HZ := hide hsz
  clear hC hst hall hsz ht1
  have hb5 : Blk (((w1.alloc (.cells zeroT 30)).setRow w1.heap.size C).alloc (.cells (byT 0) 54)) w1.heap.size 30 C := (Blk.setRow_ (Blk.new w1 30 zeroT)).alloc _
  have HB5 := hide hb5
  clear hb5
  set_option maxRecDepth 100000 in go_wp2_with (first | refine wpList_store_row rfl 30 (.tmp 5) (.tmp 11) rfl w1.heap.size C rfl rfl 30 zeroT (Blk.new w1 30 zeroT) HS.out HZ.out HA.out ?_ | refine wpList_load_row rfl 30 (.tmp 5) rfl w1.heap.size rfl 30 C (0, 0) _ HB5.out Try.underlying30 rfl HS.out ?_)
  go_loopw [13] (fun i wr => ∃ k : Nat, k ≤ 256 ∧ i = .int .i64 k ∧ FRel w w1.heap.size C k wr) (fun i _ => 256 - (intOf i).toNat)
  case atStart =>
    refine ⟨0, Nat.zero_le _, rfl, (Turn.setRow_ (HT1.out.alloc _) (.inr HT1.out.size) _).alloc _, HB5.out, ?_⟩
    have := Blk.new ((w1.alloc (.cells zeroT 30)).setRow w1.heap.size C) 54 (byT 0)
    simpa [World.setRow] using this
  case round =>
    obtain ⟨k, hk, rfl, ht, hb0, hb1⟩ := hrel
    by_cases hlt : k < 256
    · have hlt' : (k : Int) < 256 := by omega
      have hcell := tab_get 256 k hlt hlt
      rw [HC.out] at hcell
      have hidx := index30 wr C k _ hlt hcell
      have hn := top_lt (T (BitVec.ofNat 32 k))
      obtain ⟨n, hnn⟩ : ∃ n, n = (T (BitVec.ofNat 32 k) >>> 24).toNat := ⟨_, rfl⟩
      rw [← hnn] at hn
      have hix : u (T (BitVec.ofNat 32 k)) / (16777216 : Int) = (n : Int) := by rw [u_div24, hnn]; rfl
      have hn' : (n : Int) < 256 := by omega
      have hf := hb1.frozen n
      have hc := (hb1.cell n).trans (Array.getElem?_eq_getElem (by rw [byT_size]; exact hn))
      obtain ⟨v, hc⟩ : ∃ v, _ = some v := ⟨_, hc⟩
      have HNN := hide hnn
      have HT := hide ht
      have HB0 := hide hb0
      have HB1 := hide hb1
      clear ht hb0 hb1 hnn
      set_option maxRecDepth 100000 in go_wp2_with fail
      refine ⟨⟨k + 1, by omega, by go_num, HT.out.setCell (.inr (by have := HT1.out.size; simp; omega)) _, HB0.out.far (by simp) _, ?_⟩, by simp [intOf]; omega⟩
      have := HB1.out.set_ n (.int .i64 k)
      rw [HNN.out, ← byT_succ] at this
      rw [HNN.out]
      exact this
    · obtain rfl : k = 256 := by omega
      have hby := fun v hv => by_at v hv
      obtain ⟨B, hB⟩ : ∃ B, B = byT 256 := ⟨_, rfl⟩
      rw [← hB] at hb1 hby
      clear hB
      have HT := hide ht
      have HB0 := hide hb0
      have HB1 := hide hb1
      have HBY := hide hby
      clear ht hb0 hb1 hby hk hlt
      set_option maxRecDepth 100000 in go_wp2_with fail
      go_loopw [9, 24] (fun r i wr' => ∃ k : Nat, k ≤ 4 ∧ i = .int .i64 k ∧ r = .int .u32 (u (back4 k (~~~ y))) ∧ wr' = wr) (fun _ i _ => 4 - (intOf i).toNat)
      case atStart => exact ⟨0, Nat.zero_le _, rfl, rfl, rfl⟩
      case round =>
        obtain ⟨k, hk, rfl, rfl, rfl⟩ := hrel
        by_cases hlt : k < 4
        · have hlt' : (k : Int) < 4 := by omega
          have hn := top_lt (back4 k (~~~ y))
          obtain ⟨i, hi, hbi, htop⟩ := HBY.out _ hn
          have hst := fix_step (back4 k (~~~ y)) i hi htop
          obtain ⟨n, hnn⟩ : ∃ n, n = ((back4 k (~~~ y)) >>> 24).toNat := ⟨_, rfl⟩
          rw [← hnn] at hn hbi
          have hix : u (back4 k (~~~ y)) / (16777216 : Int) = (n : Int) := by rw [u_div24, hnn]; rfl
          have hn' : (n : Int) < 256 := by omega
          have hi' : (i : Int) < 256 := by omega
          have hc6 := (HB1.out.cell n).trans hbi
          have hti := tab_get 256 i hi hi
          rw [HC.out] at hti
          have hc5 := (HB0.out.cell i).trans hti
          clear hti
          have hcv := u_conv i (by omega)
          have HST := hide hst
          clear hst htop hnn hbi
          set_option maxRecDepth 100000 in go_wp2_with fail
          exact ⟨⟨k + 1, by omega, by go_num, by rw [HST.out]; rfl, trivial⟩, by simp [intOf]; omega⟩
        · obtain rfl : k = 4 := by omega
          go_wp2_with fail
          rw [fix_str]
          go_wp2_with fail
          go_ret
          exact ⟨by rw [← fix_eq]; rfl, HT.out.alloc _⟩
end Go.Proofs.Ytmdjkpmjpngkdaa

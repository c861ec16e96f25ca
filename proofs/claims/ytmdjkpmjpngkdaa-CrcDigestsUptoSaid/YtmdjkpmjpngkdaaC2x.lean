/- The tables: the program's and the document's. -/
import Derived.Test.YtmdjkpmjpngkdaaC1x
import Derived.Deep.WholeRow
namespace Go.Proofs.Ytmdjkpmjpngkdaa
set_option linter.unusedVariables false
set_option linter.unusedSimpArgs false
open Go.RowKit K

def zeroT : Array Value := Array.replicate 256 (.int .u32 0)
theorem zero30 : (Try.prog.info? 30).map (fun i => (i.zero, i.size)) = some (some (.agg zeroT), 256) := by kernel_rfl
def T (x : BitVec 32) : BitVec 32 := bits8 8 x
def tab (k : Nat) : Array Value := ((List.range 256).map fun i => if i < k then Value.int .u32 (u (T (BitVec.ofNat 32 i))) else .int .u32 0).toArray
theorem tab_zero : tab 0 = zeroT := by kernel_rfl
theorem tab_size (k : Nat) : (tab k).size = 256 := by simp [tab]
theorem tab_get (k j : Nat) (hj : j < 256) (hk : j < k) : (tab k)[j]? = some (.int .u32 (u (T (BitVec.ofNat 32 j)))) := by
  simp [tab, hj, hk]
theorem tab_set (k : Nat) (hk : k < 256) : (tab k).setIfInBounds k (.int .u32 (u (T (BitVec.ofNat 32 k)))) = tab (k + 1) := by
  apply Array.ext_getElem?
  intro i
  rw [Array.getElem?_setIfInBounds]
  by_cases hik : k = i
  · subst hik
    simp [tab, hk]
  · rw [if_neg hik]
    by_cases hi : i < 256
    · have : (i < k) = (i < k + 1) := by apply propext; omega
      simp [tab, hi, this]
    · simp [tab, hi]
theorem tab_one (k : Nat) : ∀ u ∈ (tab k).toList, u.oneCell' = true := by
  intro v hv
  simp only [tab, List.mem_map] at hv
  obtain ⟨i, _, rfl⟩ := hv
  split <;> rfl
theorem u_conv (k : Nat) (hk : k < 4294967296) : IntKind.u32.wrap (k : Int) = u (BitVec.ofNat 32 k) := by
  unfold u
  rw [IntKind.wrap_u32', BitVec.toNat_ofNat]
  omega
theorem size30 : (Try.prog.info? 30).map (·.size) = some 256 := (zero_of_info zero30).2
theorem size_tab (k : Nat) : (Try.prog.info? 30).map (·.size) = some (tab k).size := by rw [tab_size, size30]
theorem all_tab (k : Nat) : (tab k).all (·.oneCell') = true := Array.all_eq_true_iff_forall_mem.2 fun v hv => tab_one k v (by simpa using hv)
theorem Blk.setRow_ {w : World} {g : Nat} {t : TypeId} {cs c' : Array Value} (h : Blk w g t cs) : Blk (w.setRow g c') g t c' := by
  unfold Blk at h ⊢
  simp [World.setRow, Array.getElem?_modify, h]
theorem Turn.setRow_ {F : List Nat} {w w1 : World} (h : Turn F w w1) {g : Nat} (hg : g ∈ F ∨ w.heap.size ≤ g) (c' : Array Value) : Turn F w (w1.setRow g c') :=
  h.trans (G := [g]) ⟨rfl, rfl, rfl, by simp, fun k hk hn => by
    unfold World.setRow
    simp only [Array.getElem?_modify]
    rw [if_neg (by simp at hn; exact fun e => hn e.symm)]⟩ (by simpa using hg)
/-- the worlds of the loop: the answer's block, still zero; the table's, laid so far. -/
def TRel (w : World) (k : Nat) (wr : World) : Prop := Turn [] w wr ∧ Blk wr w.heap.size 30 zeroT ∧ Blk wr (w.heap.size + 1) 30 (tab k)
set_option maxHeartbeats 400000 in
theorem table_any (w : World) : Calls Try.prog 19 #[] w fun e w' => e = .returned (.agg (tab 256)) ∧ Turn [] w w' := by
  have hz := (zero_of_info zero30).1
  go_enter Try.func19, Try.ntmps19
  go_wp2_with fail
  go_loopw [4] (fun i wr => ∃ k : Nat, k ≤ 256 ∧ i = .int .i64 k ∧ TRel w k wr) (fun i _ => 256 - (intOf i).toNat)
  case atStart =>
    refine ⟨0, Nat.zero_le _, rfl, ((Turn.refl _ _).alloc _).alloc _, (Blk.new _ _ _).alloc _, ?_⟩
    rw [tab_zero]
    have := Blk.new (w.alloc (.cells zeroT 30)) 30 zeroT
    simpa using this
  case round =>
    obtain ⟨k, hk, rfl, ht, hb0, hb1⟩ := hrel
    by_cases hlt : k < 256
    · have hlt' : (k : Int) < 256 := by omega
      have hcv := u_conv k (by omega)
      have HT := hide ht
      have HB0 := hide hb0
      have HB1 := hide hb1
      clear ht hb0 hb1
      go_wp2_with fail
      go_loopw [3, 9] (fun r i wr' => ∃ j : Nat, j ≤ 8 ∧ i = .int .i64 j ∧ r = .int .u32 (u (bits8 j (BitVec.ofNat 32 k))) ∧ wr' = wr) (fun _ i _ => 8 - (intOf i).toNat)
      case atStart => exact ⟨0, Nat.zero_le _, rfl, rfl, rfl⟩
      case round =>
        obtain ⟨j, hj, rfl, rfl, rfl⟩ := hrel
        by_cases hlj : j < 8
        · have hlj' : (j : Int) < 8 := by omega
          by_cases hb0 : (bits8 j (BitVec.ofNat 32 k)).getLsbD 0 = true
          · have h1 := u_odd hb0
            have h2 := bits8_succ j (BitVec.ofNat 32 k)
            rw [bit, if_pos hb0] at h2
            have H2 := hide h2
            have HB := hide hb0
            clear h2 hb0
            go_wp2_with fail
            exact ⟨⟨j + 1, by omega, by go_num, by rw [H2.out], trivial⟩, by simp [intOf]; omega⟩
          · have h1 := u_even hb0
            have h2 := bits8_succ j (BitVec.ofNat 32 k)
            rw [bit, if_neg hb0] at h2
            have H2 := hide h2
            have HB := hide hb0
            clear h2 hb0
            go_wp2_with fail
            exact ⟨⟨j + 1, by omega, by go_num, by rw [H2.out], trivial⟩, by simp [intOf]; omega⟩
        · obtain rfl : j = 8 := by omega
          have hf := HB1.out.frozen k
          have hc := (HB1.out.cell k).trans (Array.getElem?_eq_getElem (by rw [tab_size]; exact hlt))
          obtain ⟨v, hc⟩ : ∃ v, _ = some v := ⟨_, hc⟩
          go_wp2_with fail
          refine ⟨⟨k + 1, by omega, by go_num, HT.out.setCell (.inr (by simp)) _, HB0.out.far (by simp) _, ?_⟩, by simp [intOf]; omega⟩
          have := HB1.out.set_ k (.int .u32 (u (T (BitVec.ofNat 32 k))))
          rw [tab_set k hlt] at this
          exact this
    · obtain rfl : k = 256 := by omega
      have HT := hide ht
      have HB0 := hide hb0
      have HB1 := hide hb1
      clear ht hb0 hb1
      have hst := size_tab 256
      have hall := all_tab 256
      have hsz : zeroT.size = (tab 256).size := by rw [tab_size]; simp [zeroT]
      generalize hC : tab 256 = C at HB1 hst hall hsz ⊢
      have HC := hide hC
      clear hC
      have HS := hide hst
      have HA := hide hall
      have HZ := hide hsz
      clear hst hall hsz
      clear hk hlt
      set_option maxRecDepth 100000 in go_wp2_with (first | refine wpList_load_row rfl 30 (.tmp 1) rfl (w.heap.size + 1) rfl 30 C (0, 0) _ HB1.out Try.underlying30 rfl HS.out ?_ | refine wpList_store_row rfl 30 (.tmp 0) (.tmp 24) rfl w.heap.size C rfl rfl 30 zeroT HB0.out HS.out HZ.out HA.out ?_)
      exact bodyPost_ret (v := .agg C) (results_cell_row rfl _ _ w.heap.size 30 C (0, 0) _ rfl (Blk.setRow_ HB0.out) Try.underlying30 rfl HS.out) rfl ⟨by rw [HC.out], Turn.setRow_ HT.out (.inr (Nat.le_refl _)) _⟩
set_option maxHeartbeats 400000 in
theorem rtable_any (w : World) : Calls Try.prog 20 #[] w fun e w' => e = .returned (.agg (tab 256)) ∧ Turn [] w w' := by
  have hz := (zero_of_info zero30).1
  go_enter Try.func20, Try.ntmps20
  go_wp2_with fail
  go_loopw [2] (fun i wr => ∃ k : Nat, k ≤ 256 ∧ i = .int .i64 k ∧ TRel w k wr) (fun i _ => 256 - (intOf i).toNat)
  case atStart =>
    refine ⟨0, Nat.zero_le _, rfl, ((Turn.refl _ _).alloc _).alloc _, (Blk.new _ _ _).alloc _, ?_⟩
    rw [tab_zero]
    have := Blk.new (w.alloc (.cells zeroT 30)) 30 zeroT
    simpa using this
  case round =>
    obtain ⟨k, hk, rfl, ht, hb0, hb1⟩ := hrel
    by_cases hlt : k < 256
    · have hlt' : (k : Int) < 256 := by omega
      have hcv := u_conv k (by omega)
      have hf := hb1.frozen k
      have hc := (hb1.cell k).trans (Array.getElem?_eq_getElem (by rw [tab_size]; exact hlt))
      obtain ⟨v, hc⟩ : ∃ v, _ = some v := ⟨_, hc⟩
      have HT := hide ht
      have HB0 := hide hb0
      have HB1 := hide hb1
      clear ht hb0 hb1
      go_wp2_with fail
      refine (take_any _ (BitVec.ofNat 32 k) 0#32 0 rfl).mono ?_
      rintro e w1 ⟨rfl, rfl⟩
      rw [BitVec.xor_zero]
      go_wp2_with fail
      refine ⟨⟨k + 1, by omega, by go_num, HT.out.setCell (.inr (by simp)) _, HB0.out.far (by simp) _, ?_⟩, by simp [intOf]; omega⟩
      have := HB1.out.set_ k (.int .u32 (u (T (BitVec.ofNat 32 k))))
      rw [tab_set k hlt] at this
      exact this
    · obtain rfl : k = 256 := by omega
      have hst := size_tab 256
      have hall := all_tab 256
      have hsz : zeroT.size = (tab 256).size := by rw [tab_size]; simp [zeroT]
      generalize hC : tab 256 = C at hb1 hst hall hsz ⊢
      have HC := hide hC
      clear hC
      have HT := hide ht
      have HB0 := hide hb0
      have HB1 := hide hb1
      have HS := hide hst
      have HA := hide hall
      have HZ := hide hsz
      clear hst hall hsz ht hb0 hb1 hk hlt
      set_option maxRecDepth 100000 in go_wp2_with (first | refine wpList_load_row rfl 30 (.tmp 1) rfl (w.heap.size + 1) rfl 30 C (0, 0) _ HB1.out Try.underlying30 rfl HS.out ?_ | refine wpList_store_row rfl 30 (.tmp 0) (.tmp 12) rfl w.heap.size C rfl rfl 30 zeroT HB0.out HS.out HZ.out HA.out ?_)
      exact bodyPost_ret (v := .agg C) (results_cell_row rfl _ _ w.heap.size 30 C (0, 0) _ rfl (Blk.setRow_ HB0.out) Try.underlying30 rfl HS.out) rfl ⟨by rw [HC.out], Turn.setRow_ HT.out (.inr (Nat.le_refl _)) _⟩
end Go.Proofs.Ytmdjkpmjpngkdaa

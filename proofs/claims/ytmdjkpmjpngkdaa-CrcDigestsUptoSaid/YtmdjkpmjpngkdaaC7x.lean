/- What a matrix makes of a register: the program's times, the document's of. -/
import Derived.Test.YtmdjkpmjpngkdaaC6x
namespace Go.Proofs.Ytmdjkpmjpngkdaa
set_option linter.unusedVariables false
set_option linter.unusedSimpArgs false
open Go.RowKit K

abbrev Mx := Nat → BitVec 32
def mat (M : Mx) : Array Value := ((List.range 32).map fun i => Value.int .u32 (u (M i))).toArray
theorem mat_size (M : Mx) : (mat M).size = 32 := by simp [mat]
theorem mat_get (M : Mx) (i : Nat) (hi : i < 32) : (mat M)[i]? = some (.int .u32 (u (M i))) := by simp [mat, hi]
theorem mat_one (M : Mx) : ∀ v ∈ (mat M).toList, v.oneCell' = true := by
  intro v hv
  simp only [mat, List.mem_map] at hv
  obtain ⟨i, _, rfl⟩ := hv
  rfl
theorem all_mat (M : Mx) : (mat M).all (·.oneCell') = true := Array.all_eq_true_iff_forall_mem.2 fun v hv => mat_one M v (by simpa using hv)
/-- the first k rows' part of what a matrix makes of a register. -/
def appTo (M : Mx) (r : BitVec 32) : Nat → BitVec 32
  | 0 => 0#32
  | k + 1 => if r.getLsbD k then appTo M r k ^^^ M k else appTo M r k
def app (M : Mx) (r : BitVec 32) : BitVec 32 := appTo M r 32
theorem appTo_stop (M : Mx) (r : BitVec 32) (k : Nat) (h : r >>> k = 0#32) (n : Nat) (hn : k ≤ n) : appTo M r n = appTo M r k := by
  induction n with
  | zero => obtain rfl : k = 0 := by omega
            rfl
  | succ n ih =>
    rcases Nat.lt_or_ge n k with hl | hl
    · obtain rfl : k = n + 1 := by omega
      rfl
    · have hb : r.getLsbD n = false := by
        have := congrArg (fun x : BitVec 32 => x.getLsbD (n - k)) h
        simp only [BitVec.getLsbD_ushiftRight] at this
        rw [show k + (n - k) = n by omega] at this
        rw [this]; simp
      rw [appTo, hb, if_neg (by simp), ih hl]
theorem shr_end (r : BitVec 32) (k : Nat) (h : 32 ≤ k) : r >>> k = 0#32 := by
  apply BitVec.eq_of_getLsbD_eq
  intro i hi
  rw [BitVec.getLsbD_ushiftRight, BitVec.getLsbD_of_ge r _ (by omega)]
  simp
theorem shr_bit (r : BitVec 32) (k : Nat) : (r >>> k).getLsbD 0 = r.getLsbD k := by rw [BitVec.getLsbD_ushiftRight]; rfl
theorem u_ne_zero {x : BitVec 32} (h : ¬ x = 0#32) : ¬ u x = 0 := fun e => h (u_inj (y := 0#32) e)
set_option maxHeartbeats 400000 in
theorem times_any (w : World) (g : Nat) (M : Mx) (r : BitVec 32) (hb : Blk w g 61 (mat M)) : Calls Try.prog 38 #[.pointer (some ⟨g, 0, none⟩), .int .u32 (u r)] w fun e w' => e = .returned (.int .u32 (u (app M r))) ∧ w' = w := by
  have HB := hide hb
  clear hb
  go_enter Try.func38, Try.ntmps38
  go_wp2_with fail
  go_loopw [1, 5, 6] (fun q o i wr => ∃ k : Nat, k ≤ 32 ∧ i = .int .i64 k ∧ q = .int .u32 (u (r >>> k)) ∧ o = .int .u32 (u (appTo M r k)) ∧ wr = w) (fun _ _ i _ => 32 - (intOf i).toNat)
  case atStart => exact ⟨0, Nat.zero_le _, rfl, by simp, rfl, rfl⟩
  case round =>
    obtain ⟨k, hk, rfl, rfl, rfl, rfl⟩ := hrel
    by_cases h0 : r >>> k = 0#32
    · have hs := appTo_stop M r k h0 32 hk
      have hu : u (r >>> k) = 0 := by rw [h0]; rfl
      have HS := hide hs
      clear hs h0
      go_wp2_with fail
      go_ret
      exact ⟨by rw [app, HS.out]; rfl, rfl⟩
    · have hlt : k < 32 := Nat.lt_of_not_le fun h => h0 (shr_end r k h)
      have hu := u_ne_zero h0
      have hsh : r >>> (k + 1) = r >>> k >>> 1 := BitVec.shiftRight_add r k 1
      have hc := (HB.out.cell k).trans (mat_get M k hlt)
      have hlt' : (k : Int) < 32 := by omega
      have HSH := hide hsh
      have H0 := hide h0
      clear hsh h0
      by_cases hb0 : (r >>> k).getLsbD 0 = true
      · have h1 := u_odd hb0
        have h2 : appTo M r (k + 1) = appTo M r k ^^^ M k := by rw [appTo, ← shr_bit, hb0]; rfl
        have H2 := hide h2
        have HB0 := hide hb0
        clear h2 hb0
        go_wp2_with fail
        exact ⟨⟨k + 1, by omega, by go_num, by rw [HSH.out], by rw [H2.out], trivial⟩, by simp [intOf]; omega⟩
      · have h1 := u_even hb0
        have h2 : appTo M r (k + 1) = appTo M r k := by rw [appTo, ← shr_bit, if_neg hb0]
        have H2 := hide h2
        have HB0 := hide hb0
        clear h2 hb0
        go_wp2_with fail
        exact ⟨⟨k + 1, by omega, by go_num, by rw [HSH.out], by rw [H2.out], trivial⟩, by simp [intOf]; omega⟩
set_option maxHeartbeats 400000 in
theorem of_any (w : World) (M : Mx) (r : BitVec 32) : Calls Try.prog 37 #[.agg (mat M), .int .u32 (u r)] w fun e w' => e = .returned (.int .u32 (u (app M r))) ∧ Turn [] w w' := by
  go_enter Try.func37, Try.ntmps37
  go_wp2_with fail
  go_loopw [5, 6] (fun o i wr => ∃ k : Nat, k ≤ 32 ∧ i = .int .i64 k ∧ o = .int .u32 (u (appTo M r k)) ∧ wr = w.alloc (.cells (mat M) 59)) (fun _ i _ => 32 - (intOf i).toNat)
  case atStart => exact ⟨0, Nat.zero_le _, rfl, rfl, rfl⟩
  case round =>
    obtain ⟨k, hk, rfl, rfl, rfl⟩ := hrel
    by_cases hlt : k < 32
    · have hlt' : (k : Int) < 32 := by omega
      have hwk : IntKind.u64.wrap (k : Int) = (k : Int) := by rw [IntKind.wrap_u64]; omega
      have hmin : min k 32 = k := by omega
      have hc := mat_get M k hlt
      have hq := u_shr r k
      by_cases hb0 : (r >>> k).getLsbD 0 = true
      · have h1 := u_odd hb0
        have h2 : appTo M r (k + 1) = appTo M r k ^^^ M k := by rw [appTo, ← shr_bit, hb0]; rfl
        have H2 := hide h2
        have HB0 := hide hb0
        clear h2 hb0
        go_wp2_with fail
        exact ⟨⟨k + 1, by omega, by go_num, by rw [H2.out], trivial⟩, by simp [intOf]; omega⟩
      · have h1 := u_even hb0
        have h2 : appTo M r (k + 1) = appTo M r k := by rw [appTo, ← shr_bit, if_neg hb0]
        have H2 := hide h2
        have HB0 := hide hb0
        clear h2 hb0
        go_wp2_with fail
        exact ⟨⟨k + 1, by omega, by go_num, by rw [H2.out], trivial⟩, by simp [intOf]; omega⟩
    · obtain rfl : k = 32 := by omega
      go_wp2_with fail
      go_ret
      exact ⟨rfl, (Turn.refl _ _).alloc _⟩
end Go.Proofs.Ytmdjkpmjpngkdaa

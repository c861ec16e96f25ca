/- Join, Behind and the digests. -/
import Derived.Test.YtmdjkpmjpngkdaaD1x
namespace Go.Proofs.Ytmdjkpmjpngkdaa
set_option linter.unusedVariables false
set_option linter.unusedSimpArgs false
open Go.RowKit K

/-- what n bytes 0 make of a register; none for n below 0. -/
def zerI (n : Int) (r : BitVec 32) : BitVec 32 := zer n.toNat r
theorem shift_eq (r : BitVec 32) (n : Int) (hn : n ≤ 9223372036854775807) : sloop 64 oneM r n.toNat = zerI n r := by
  rw [sloop_app 64 oneM r n.toNat 1 (by omega) (fun x => app_one x), Nat.one_mul]; rfl
theorem zeros_eq (r : BitVec 32) (n : Int) (hn : n ≤ 9223372036854775807) : app (zerosM n.toNat) r = zerI n r := zeros_app _ (by omega) r
set_option maxHeartbeats 400000 in
theorem join_any (w : World) (x y : BitVec 32) (n : Int) (hn : n ≤ 9223372036854775807) : Calls Try.prog 22 #[.int .u32 (u x), .int .u32 (u y), .int .i64 n] w fun e w' => e = .returned (.int .u32 (u (zerI n x ^^^ y))) ∧ Turn [] w w' := by
  go_enter Try.func22, Try.ntmps22
  go_wp2_with fail
  refine (shift_any _ x n hn).mono ?_
  rintro e w1 ⟨rfl, ht⟩
  rw [shift_eq x n hn]
  go_wp2_with fail
  go_ret
  exact ⟨rfl, ht⟩
set_option maxHeartbeats 400000 in
theorem behind_any (w : World) (x y : BitVec 32) (n : Int) (hn : n ≤ 9223372036854775807) : Calls Try.prog 24 #[.int .u32 (u x), .int .u32 (u y), .int .i64 n] w fun e w' => e = .returned (.int .u32 (u (zerI n y ^^^ x))) ∧ Turn [] w w' := by
  go_enter Try.func24, Try.ntmps24
  go_wp2_with fail
  refine (shift_any _ y n hn).mono ?_
  rintro e w1 ⟨rfl, ht⟩
  rw [shift_eq y n hn]
  go_wp2_with fail
  go_ret
  exact ⟨rfl, ht⟩
set_option maxHeartbeats 400000 in
theorem rjoin_any (w : World) (x y : BitVec 32) (n : Int) (hn : n ≤ 9223372036854775807) : Calls Try.prog 23 #[.int .u32 (u x), .int .u32 (u y), .int .i64 n] w fun e w' => e = .returned (.int .u32 (u (zerI n x ^^^ y))) ∧ Turn [] w w' := by
  go_enter Try.func23, Try.ntmps23
  go_wp2_with fail
  refine (zeros_any _ n hn).mono ?_
  rintro e w1 ⟨rfl, ht⟩
  have HT := hide ht
  clear ht
  go_wp2_with fail
  refine (of_any _ _ x).mono ?_
  rintro e w2 ⟨rfl, ht2⟩
  have HT2 := hide ht2
  clear ht2
  rw [zeros_eq x n hn]
  go_wp2_with fail
  go_ret
  exact ⟨rfl, HT.out.trans0 HT2.out⟩
set_option maxHeartbeats 400000 in
theorem rbehind_any (w : World) (x y : BitVec 32) (n : Int) (hn : n ≤ 9223372036854775807) : Calls Try.prog 25 #[.int .u32 (u x), .int .u32 (u y), .int .i64 n] w fun e w' => e = .returned (.int .u32 (u (zerI n y ^^^ x))) ∧ Turn [] w w' := by
  go_enter Try.func25, Try.ntmps25
  go_wp2_with fail
  refine (zeros_any _ n hn).mono ?_
  rintro e w1 ⟨rfl, ht⟩
  have HT := hide ht
  clear ht
  go_wp2_with fail
  refine (of_any _ _ y).mono ?_
  rintro e w2 ⟨rfl, ht2⟩
  have HT2 := hide ht2
  clear ht2
  rw [zeros_eq y n hn]
  go_wp2_with fail
  go_ret
  exact ⟨rfl, HT.out.trans0 HT2.out⟩
set_option maxHeartbeats 400000 in
theorem sum_any (w : World) (s : ByteArray) (hs : s.size ≤ 9223372036854775807) : Calls Try.prog 13 #[.string s] w fun e w' => e = .returned (.int .u32 (u (more 0#32 s))) ∧ Turn [] w w' := by
  go_enter Try.func13, Try.ntmps13
  go_wp2_with fail
  refine (more_any _ 0#32 s hs).mono ?_
  rintro e w1 ⟨rfl, ht⟩
  go_wp2_with fail
  go_ret
  exact ⟨rfl, ht⟩

/-- a digest in memory. -/
def Dig (w : World) (b : Nat) (s : BitVec 32) (n : Int) : Prop := Blk w b 47 #[.int .u32 (u s), .int .i64 n]
set_option maxHeartbeats 400000 in
theorem new_any (w : World) : Calls Try.prog 26 #[] w fun e w' => ∃ b, e = .returned (.pointer (some ⟨b, 0, none⟩)) ∧ w.heap.size ≤ b ∧ Turn [] w w' ∧ Dig w' b 0#32 0 := by
  go_enter Try.func26, Try.ntmps26
  go_wp2_with fail
  go_ret
  exact ⟨_, rfl, Nat.le_refl _, (Turn.refl _ _).alloc _, Blk.new _ _ _⟩
set_option maxHeartbeats 400000 in
theorem dsum_any (w : World) (b : Nat) (s : BitVec 32) (n : Int) (h : Dig w b s n) : Calls Try.prog 28 #[.pointer (some ⟨b, 0, none⟩)] w fun e w' => e = .returned (.int .u32 (u s)) ∧ w' = w := by
  have hc : w.cell? ⟨b, 0, none⟩ = some (.int .u32 (u s)) := h.cell 0
  clear h
  go_enter Try.func28, Try.ntmps28
  go_wp2_with fail
  go_ret
  exact ⟨rfl, rfl⟩
set_option maxHeartbeats 400000 in
theorem dlen_any (w : World) (b : Nat) (s : BitVec 32) (n : Int) (h : Dig w b s n) : Calls Try.prog 32 #[.pointer (some ⟨b, 0, none⟩)] w fun e w' => e = .returned (.int .i64 n) ∧ w' = w := by
  have hc : w.cell? ⟨b, 1, none⟩ = some (.int .i64 n) := h.cell 1
  clear h
  go_enter Try.func32, Try.ntmps32
  go_wp2_with fail
  go_ret
  exact ⟨rfl, rfl⟩
set_option maxHeartbeats 400000 in
theorem reset_any (w : World) (b : Nat) (s : BitVec 32) (n : Int) (h : Dig w b s n) : Calls Try.prog 29 #[.pointer (some ⟨b, 0, none⟩)] w fun e w' => e = .returned (.tuple #[]) ∧ Turn [b] w w' ∧ Dig w' b 0#32 0 := by
  have hc : w.cell? ⟨b, 0, none⟩ = some (.int .u32 (u s)) := h.cell 0
  have hc1 : w.cell? ⟨b, 1, none⟩ = some (.int .i64 n) := h.cell 1
  have hf := h.frozen 0
  have hf1 := h.frozen 1
  have H := hide h
  clear h
  go_enter Try.func29, Try.ntmps29
  go_wp2_with fail
  go_end0
  exact ⟨rfl, ((Turn.refl _ _).setCell (.inl (by simp)) _).setCell (.inl (by simp)) _, (H.out.set_ 0 _).set_ 1 _⟩
set_option maxHeartbeats 400000 in
theorem clone_any (w : World) (b : Nat) (s : BitVec 32) (n : Int) (h : Dig w b s n) : Calls Try.prog 30 #[.pointer (some ⟨b, 0, none⟩)] w fun e w' => ∃ b', e = .returned (.pointer (some ⟨b', 0, none⟩)) ∧ w.heap.size ≤ b' ∧ Turn [] w w' ∧ Dig w' b' s n := by
  have hc : w.cell? ⟨b, 0, none⟩ = some (.int .u32 (u s)) := h.cell 0
  have hc1 : w.cell? ⟨b, 1, none⟩ = some (.int .i64 n) := h.cell 1
  have hb := h.lt
  clear h
  go_enter Try.func30, Try.ntmps30
  go_wp2_with fail
  go_ret
  exact ⟨_, rfl, Nat.le_refl _, (Turn.refl _ _).alloc _, Blk.new _ _ _⟩
set_option maxHeartbeats 400000 in
theorem write_any (w : World) (b : Nat) (s : BitVec 32) (n : Int) (t : ByteArray) (ht : t.size ≤ 9223372036854775807) (h : Dig w b s n) : Calls Try.prog 27 #[.pointer (some ⟨b, 0, none⟩), .string t] w fun e w' => e = .returned (.int .i64 t.size) ∧ Turn [b] w w' ∧ Dig w' b (more s t) (wrap64 (n + t.size)) := by
  have hc : w.cell? ⟨b, 0, none⟩ = some (.int .u32 (u s)) := h.cell 0
  have H := hide h
  clear h
  go_enter Try.func27, Try.ntmps27
  go_wp2_with fail
  refine (more_any _ s t ht).mono ?_
  rintro e w1 ⟨rfl, ht1⟩
  have H1 := hide (Blk.turn H.out ht1 (by simp))
  have HT := hide ht1
  have hc1 := H1.out.cell 0
  have hc2 := H1.out.cell 1
  have hf1 := H1.out.frozen 0
  have hf2 := H1.out.frozen 1
  have hc1' : w1.cell? ⟨b, 0, none⟩ = some (.int .u32 (u s)) := hc1
  have hc2' : w1.cell? ⟨b, 1, none⟩ = some (.int .i64 n) := hc2
  clear ht1 hc1 hc2
  go_wp2_with fail
  go_ret
  exact ⟨rfl, ((HT.out.mono (by simp)).setCell (.inl (by simp)) _).setCell (.inl (by simp)) _, (H1.out.set_ 0 _).set_ 1 _⟩
theorem nsum_any (w : World) : Calls Try.prog 28 #[.pointer none] w fun e w' => e = .returned (.int .u32 0) ∧ w' = w := by
  go_enter Try.func28, Try.ntmps28
  go_wp2_with fail
  go_ret
  exact ⟨rfl, rfl⟩
theorem nlen_any (w : World) : Calls Try.prog 32 #[.pointer none] w fun e w' => e = .returned (.int .i64 0) ∧ w' = w := by
  go_enter Try.func32, Try.ntmps32
  go_wp2_with fail
  go_ret
  exact ⟨rfl, rfl⟩
theorem nclone_any (w : World) : Calls Try.prog 30 #[.pointer none] w fun e w' => e = .returned (.pointer none) ∧ w' = w := by
  go_enter Try.func30, Try.ntmps30
  go_wp2_with fail
  go_ret
  exact ⟨rfl, rfl⟩
theorem nreset_any (w : World) : Calls Try.prog 29 #[.pointer none] w fun e w' => e = .returned (.tuple #[]) ∧ w' = w := by
  go_enter Try.func29, Try.ntmps29
  go_wp2_with fail
  go_end0
  exact ⟨rfl, rfl⟩
theorem nwrite_any (w : World) (t : ByteArray) : Calls Try.prog 27 #[.pointer none, .string t] w fun e w' => e = .returned (.int .i64 0) ∧ w' = w := by
  go_enter Try.func27, Try.ntmps27
  go_wp2_with fail
  go_ret
  exact ⟨rfl, rfl⟩
end Go.Proofs.Ytmdjkpmjpngkdaa

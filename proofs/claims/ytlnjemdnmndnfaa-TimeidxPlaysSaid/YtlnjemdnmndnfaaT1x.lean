/- What the index's calls come to, walked: New, Len, Entry, Last, of a nil index and of one that lies in memory; the document's. -/
import Derived.Test.YtlnjemdnmndnfaaProg
import Derived.Test.YtlnjemdnmndnfaaT0x
namespace Go.Proofs.Ytlnjemdnmndnfaa
set_option linter.unusedVariables false
set_option linter.unusedSimpArgs false
open Go.RowKit K

theorem info29 : (Try.prog.info? 29).map (fun i => (i.zero, i.size, i.bytes)) = some (some (.agg #[.int .i64 0, .int .i64 0]), 2, 16) := by kernel_rfl
def New (t : Nat) (w : World) (e : Ending) (w' : World) : Prop := ∃ b, e = .returned (.pointer (some ⟨b, 0, none⟩)) ∧ w.heap.size ≤ b ∧ Turn [] w w' ∧ Ix t w' [b] b []
def Ent (r : En × Bool) (w : World) (e : Ending) (w' : World) : Prop := e = .returned (.tuple #[.agg #[.int .i64 r.1.1, .int .i64 r.1.2], .bool r.2]) ∧ Turn [] w w'
def Same (v : Value) (w : World) (e : Ending) (w' : World) : Prop := e = .returned v ∧ Turn [] w w'

set_option maxHeartbeats 400000 in
theorem new_any (w : World) : Calls Try.prog 10 #[] w (New 45 w) := by
  go_enter Try.func10, Try.ntmps10
  go_wp2
  go_ret
  exact ⟨w.heap.size, rfl, Nat.le_refl _, (Turn.refl _ _).alloc _, none, 0, rfl, Blk.new _ _ _, World.ownsRow_nil _ _ _ _, by simp⟩

set_option maxHeartbeats 400000 in
theorem rnew (w : World) : Calls Try.prog 11 #[] w (New 34 w) := by
  go_enter Try.func11, Try.ntmps11
  go_wp2
  go_ret
  exact ⟨w.heap.size, rfl, Nat.le_refl _, (Turn.refl _ _).alloc _, none, 0, rfl, Blk.new _ _ _, World.ownsRow_nil _ _ _ _, by simp⟩

set_option maxHeartbeats 400000 in
theorem list_nil (w : World) : Calls Try.prog 32 #[.pointer none] w fun e w' => e = .returned (.slice none 0 0) ∧ w = w' := by
  go_enter Try.func32, Try.ntmps32
  go_wp2
  go_ret
  exact ⟨rfl, rfl⟩
set_option maxHeartbeats 400000 in
theorem list_cell (w : World) (b : Nat) (A : Option Addr) (n c : Nat) (h : w.cell? ⟨b, 0, none⟩ = some (.slice A n c)) :
    Calls Try.prog 32 #[.pointer (some ⟨b, 0, none⟩)] w fun e w' => e = .returned (.slice A n c) ∧ w = w' := by
  go_enter Try.func32, Try.ntmps32
  go_wp2
  go_ret
  exact ⟨rfl, rfl⟩
set_option maxHeartbeats 400000 in
theorem len_nil (w : World) : Calls Try.prog 21 #[.pointer none] w fun e w' => e = .returned (.int .i64 0) ∧ w = w' := by
  go_enter Try.func21, Try.ntmps21
  go_wp2_with (go_at_call 32; refine (list_nil _).mono ?_; rintro e w' ⟨rfl, rfl⟩)
  go_ret
  exact ⟨rfl, rfl⟩
set_option maxHeartbeats 400000 in
theorem len_cell (w : World) (b : Nat) (A : Option Addr) (n c : Nat) (h : w.cell? ⟨b, 0, none⟩ = some (.slice A n c)) :
    Calls Try.prog 21 #[.pointer (some ⟨b, 0, none⟩)] w fun e w' => e = .returned (.int .i64 n) ∧ w = w' := by
  have HL := hide (list_cell w b A n c h)
  clear h
  go_enter Try.func21, Try.ntmps21
  go_wp2_with (go_at_call 32; refine HL.out.mono ?_; rintro e w' ⟨rfl, rfl⟩)
  go_ret
  exact ⟨rfl, rfl⟩
theorem len_at {w : World} {F : List Nat} {b : Nat} {l : List En} (h : Ix 45 w F b l) :
    Calls Try.prog 21 #[.pointer (some ⟨b, 0, none⟩)] w fun e w' => e = .returned (.int .i64 l.length) ∧ w = w' := by
  obtain ⟨A, c, hc, _⟩ := h.cell
  exact len_cell w b A _ c hc
set_option maxHeartbeats 400000 in
theorem rlen {w : World} {F : List Nat} {b : Nat} {l : List En} (h : Ix 34 w F b l) :
    Calls Try.prog 31 #[.pointer (some ⟨b, 0, none⟩)] w fun e w' => e = .returned (.int .i64 l.length) ∧ w = w' := by
  obtain ⟨A, c, hc, _⟩ := h.cell
  clear h
  go_enter Try.func31, Try.ntmps31
  go_wp2
  go_ret
  exact ⟨rfl, rfl⟩

set_option maxHeartbeats 400000 in
theorem entry_in (w : World) (b g off : Nat) (n c : Nat) (h : w.cell? ⟨b, 0, none⟩ = some (.slice (some ⟨g, off, none⟩) n c)) (k : Nat) (hk : k < n) (hn : n ≤ 9223372036854775807) (x y : Int)
   (hx : w.cell? ⟨g, off + k * 2, none⟩ = some (.int .i64 x)) (hy : w.cell? ⟨g, off + k * 2 + 1, none⟩ = some (.int .i64 y)) (hb : b < w.heap.size) (hab : g < w.heap.size) :
    Calls Try.prog 19 #[.pointer (some ⟨b, 0, none⟩), .int .i64 k] w (Ent ((x, y), true) w) := by
  go_enter Try.func19, Try.ntmps19
  go_wp2_with (go_at_call 21; refine (len_cell _ b (some ⟨g, off, none⟩) n c (by go_simp)).mono ?_; rintro e w' ⟨rfl, rfl⟩)
  exact bodyPost_ret (v := .tuple #[.agg #[.int .i64 x, .int .i64 y], .bool true]) (by simp [results, Try.results19, go_sem]) rfl ⟨rfl, ((Turn.refl _ _).alloc _)⟩
set_option maxHeartbeats 400000 in
theorem entry_out (w : World) (b : Nat) (A : Option Addr) (n c : Nat) (h : w.cell? ⟨b, 0, none⟩ = some (.slice A n c)) (i : Int) (hi : i < 0 ∨ n ≤ i) (hb : b < w.heap.size) :
    Calls Try.prog 19 #[.pointer (some ⟨b, 0, none⟩), .int .i64 i] w (Ent ((0, 0), false) w) := by
  rcases (show i < 0 ∨ (¬ i < 0 ∧ n ≤ i) by omega) with hi | ⟨hi', hi⟩
  all_goals
    go_enter Try.func19, Try.ntmps19
    go_wp2_with (go_at_call 21; refine (len_cell _ b A n c (by go_simp)).mono ?_; rintro e w' ⟨rfl, rfl⟩)
    exact bodyPost_ret (v := .tuple #[.agg #[.int .i64 0, .int .i64 0], .bool false]) (by simp [results, Try.results19, go_sem]) rfl ⟨rfl, ((Turn.refl _ _).alloc _)⟩
theorem entry_at {w : World} {F : List Nat} {b : Nat} {l : List En} (h : Ix 45 w F b l) (i : Int) :
    Calls Try.prog 19 #[.pointer (some ⟨b, 0, none⟩), .int .i64 i] w (Ent (entryOf l i) w) := by
  obtain ⟨A, c, hc, hr, hm, hb, _⟩ := h.cell
  by_cases hi : 0 ≤ i ∧ i < l.length
  · obtain ⟨k, rfl⟩ := Int.eq_ofNat_of_zero_le hi.1
    have hk : k < l.length := by omega
    obtain ⟨g, off, rfl, hg, hx, hy⟩ := reads_ent hr hk
    rw [show (((k : Nat) : Int) : Int) = (k : Int) from rfl, entryOf_in hk]
    exact entry_in w b g off _ c hc k hk (by omega) _ _ hx hy hb hg
  · rw [entryOf_out (by omega)]
    exact entry_out w b A _ c hc i (by omega) hb

set_option maxHeartbeats 400000 in
theorem rentry_in (w : World) (b g off : Nat) (n c : Nat) (h : w.cell? ⟨b, 0, none⟩ = some (.slice (some ⟨g, off, none⟩) n c)) (k : Nat) (hk : k < n) (hn : n ≤ 9223372036854775807) (x y : Int)
   (hx : w.cell? ⟨g, off + k * 2, none⟩ = some (.int .i64 x)) (hy : w.cell? ⟨g, off + k * 2 + 1, none⟩ = some (.int .i64 y)) (hb : b < w.heap.size) (hab : g < w.heap.size) :
    Calls Try.prog 36 #[.pointer (some ⟨b, 0, none⟩), .int .i64 k] w (Ent ((x, y), true) w) := by
  go_enter Try.func36, Try.ntmps36
  go_wp2_with fail
  exact bodyPost_ret (v := .tuple #[.agg #[.int .i64 x, .int .i64 y], .bool true]) (by simp [results, Try.results36, go_sem]) rfl ⟨rfl, ((Turn.refl _ _).alloc _)⟩
set_option maxHeartbeats 400000 in
theorem rentry_out (w : World) (b : Nat) (A : Option Addr) (n c : Nat) (h : w.cell? ⟨b, 0, none⟩ = some (.slice A n c)) (i : Int) (hi : i < 0 ∨ n ≤ i) (hb : b < w.heap.size) :
    Calls Try.prog 36 #[.pointer (some ⟨b, 0, none⟩), .int .i64 i] w (Ent ((0, 0), false) w) := by
  rcases (show i < 0 ∨ (¬ i < 0 ∧ n ≤ i) by omega) with hi | ⟨hi', hi⟩
  all_goals
    go_enter Try.func36, Try.ntmps36
    go_wp2_with fail
    exact bodyPost_ret (v := .tuple #[.agg #[.int .i64 0, .int .i64 0], .bool false]) (by simp [results, Try.results36, go_sem]) rfl ⟨rfl, ((Turn.refl _ _).alloc _)⟩
theorem rentry_at {w : World} {F : List Nat} {b : Nat} {l : List En} (h : Ix 34 w F b l) (i : Int) :
    Calls Try.prog 36 #[.pointer (some ⟨b, 0, none⟩), .int .i64 i] w (Ent (entryOf l i) w) := by
  obtain ⟨A, c, hc, hr, hm, hb, _⟩ := h.cell
  by_cases hi : 0 ≤ i ∧ i < l.length
  · obtain ⟨k, rfl⟩ := Int.eq_ofNat_of_zero_le hi.1
    have hk : k < l.length := by omega
    obtain ⟨g, off, rfl, hg, hx, hy⟩ := reads_ent hr hk
    rw [show (((k : Nat) : Int) : Int) = (k : Int) from rfl, entryOf_in hk]
    exact rentry_in w b g off _ c hc k hk (by omega) _ _ hx hy hb hg
  · rw [entryOf_out (by omega)]
    exact rentry_out w b A _ c hc i (by omega) hb

set_option maxHeartbeats 400000 in
theorem entry_nil (w : World) (i : Int) : Calls Try.prog 19 #[.pointer none, .int .i64 i] w (Ent ((0, 0), false) w) := by
  rcases (show i < 0 ∨ 0 ≤ i by omega) with hi | hi
  all_goals
    go_enter Try.func19, Try.ntmps19
    go_wp2_with (go_at_call 21; refine (len_nil _).mono ?_; rintro e w' ⟨rfl, rfl⟩)
    exact bodyPost_ret (v := .tuple #[.agg #[.int .i64 0, .int .i64 0], .bool false]) (by simp [results, Try.results19, go_sem]) rfl ⟨rfl, ((Turn.refl _ _).alloc _)⟩
set_option maxHeartbeats 400000 in
theorem last_nil (w : World) : Calls Try.prog 20 #[.pointer none] w (Ent ((0, 0), false) w) := by
  go_enter Try.func20, Try.ntmps20
  go_wp2_with (first | (go_at_call 21; refine (len_nil _).mono ?_; rintro e w' ⟨rfl, rfl⟩) | (go_at_call 19; refine (entry_nil _ _).mono ?_; rintro e w1 ⟨rfl, ht⟩; obtain ⟨hc, hf, hz⟩ := box_kept ht))
  exact bodyPost_ret (v := .tuple #[.agg #[.int .i64 0, .int .i64 0], .bool false]) (by simp [results, Try.results20, go_sem, hc, hf, hz]) rfl ⟨rfl, ((turn_box ht).setCell (.inr (by simp)) _).setCell (.inr (by simp)) _⟩

set_option maxHeartbeats 400000 in
theorem last_at {w : World} {F : List Nat} {b : Nat} {l : List En} (h : Ix 45 w F b l) : Calls Try.prog 20 #[.pointer (some ⟨b, 0, none⟩)] w (Ent (lastOf l) w) := by
  obtain ⟨A, c, hc0, _, hm, hbw, _⟩ := h.cell
  have H := hide (fun o => h.turn0 ((Turn.refl _ _).alloc o))
  have T := hide (fun o => entry_at (h.turn0 ((Turn.refl _ _).alloc o)) ((l.length : Int) - 1))
  clear h
  go_enter Try.func20, Try.ntmps20
  go_wp2_with (first | (go_at_call 21; refine (len_at (H.out _)).mono ?_; rintro e w' ⟨rfl, rfl⟩) | (go_at_call 19; refine (T.out _).mono ?_; rintro e w1 ⟨rfl, ht⟩; obtain ⟨hc, hf, hz⟩ := box_kept ht))
  exact bodyPost_ret (v := .tuple #[.agg #[.int .i64 (lastOf l).1.1, .int .i64 (lastOf l).1.2], .bool (lastOf l).2]) (by simp [results, Try.results20, go_sem, hc, hf, hz, lastOf]) rfl ⟨rfl, ((turn_box ht).setCell (.inr (by simp)) _).setCell (.inr (by simp)) _⟩

set_option maxHeartbeats 400000 in
theorem rlast {w : World} {F : List Nat} {b : Nat} {l : List En} (h : Ix 34 w F b l) : Calls Try.prog 28 #[.pointer (some ⟨b, 0, none⟩)] w (Ent (lastOf l) w) := by
  obtain ⟨A, c, hc0, _, hm, hbw, _⟩ := h.cell
  have H := hide (fun o => h.turn0 ((Turn.refl _ _).alloc o))
  have T := hide (fun o => rentry_at (h.turn0 ((Turn.refl _ _).alloc o)) ((l.length : Int) - 1))
  clear h
  go_enter Try.func28, Try.ntmps28
  go_wp2_with (first | (go_at_call 31; refine (rlen (H.out _)).mono ?_; rintro e w' ⟨rfl, rfl⟩) | (go_at_call 36; refine (T.out _).mono ?_; rintro e w1 ⟨rfl, ht⟩; obtain ⟨hc, hf, hz⟩ := box_kept ht))
  exact bodyPost_ret (v := .tuple #[.agg #[.int .i64 (lastOf l).1.1, .int .i64 (lastOf l).1.2], .bool (lastOf l).2]) (by simp [results, Try.results28, go_sem, hc, hf, hz, lastOf]) rfl ⟨rfl, ((turn_box ht).setCell (.inr (by simp)) _).setCell (.inr (by simp)) _⟩
end Go.Proofs.Ytlnjemdnmndnfaa

/- What the index's calls come to, walked: New, Len, Entry, Last, Add, of a nil index and of one that lies in memory. Conditions: as each contract tells. -/
import Derived.Test.YtgjpaglkcpomnaaProg
import Derived.Test.YtgjpaglkcpomnaaPlain
namespace Go.Proofs.Ytgjpaglkcpomnaa
set_option linter.unusedVariables false
set_option linter.unusedSimpArgs false
open Go.RowKit K

theorem info30 : (Try.prog.info? 30).map (fun i => (i.zero, i.size, i.bytes)) = some (some (.agg #[.int .i64 0, .int .i64 0]), 2, 16) := by kernel_rfl

/-- an index in memory: its block, the row that it owns, the entries. F: the blocks that are its own. -/
def Idx (w : World) (F : List Nat) (b : Nat) (l : List En) : Prop :=
  ∃ A c, F = b :: blockOf A ∧ Blk w b 46 #[.slice A l.length c] ∧ w.ownsRow 0 30 2 (.slice A l.length c) l.length (ents l) ∧ l.length * 16 ≤ 140737488355328
theorem ownBlock_slice (A : Option Addr) (n c : Nat) : (Value.slice A n c).ownBlock = A.map Addr.block := by cases A <;> rfl
theorem Idx.lt {w : World} {F : List Nat} {b : Nat} {l : List En} (h : Idx w F b l) : ∀ k ∈ F, k < w.heap.size := by
  obtain ⟨A, c, rfl, hb, ho, hsz⟩ := h
  intro k hk
  simp only [List.mem_cons] at hk
  rcases hk with rfl | hk
  · exact hb.lt
  · refine (ho.lt k ?_).2
    rw [ownBlock_slice]
    simpa [blockOf] using hk
theorem Idx.mem {w : World} {F : List Nat} {b : Nat} {l : List En} (h : Idx w F b l) : b ∈ F := by
  obtain ⟨A, c, rfl, hb, ho, hsz⟩ := h
  simp
theorem Idx.turn {w w1 : World} {F G : List Nat} {b : Nat} {l : List En} (h : Idx w F b l) (ht : Turn G w w1) (hd : ∀ k ∈ F, k ∉ G) : Idx w1 F b l := by
  obtain ⟨A, c, rfl, hb, ho, hsz⟩ := h
  refine ⟨A, c, rfl, hb.turn ht (hd _ (by simp)), own_turn ho ht ?_, hsz⟩
  intro g hg
  rw [ownBlock_slice] at hg
  exact hd g (by simp [blockOf, hg])
theorem Idx.turn0 {w w1 : World} {F : List Nat} {b : Nat} {l : List En} (h : Idx w F b l) (ht : Turn [] w w1) : Idx w1 F b l := h.turn ht (by simp)

def New (w : World) (e : Ending) (w' : World) : Prop := ∃ b, e = .returned (.pointer (some ⟨b, 0, none⟩)) ∧ w.heap.size ≤ b ∧ Turn [] w w' ∧ Idx w' [b] b []

set_option maxHeartbeats 400000 in
theorem new_any (w : World) : Calls Try.prog 14 #[] w (New w) := by
  go_enter Try.func14, Try.ntmps14
  go_wp2
  go_ret
  exact ⟨w.heap.size, rfl, Nat.le_refl _, (Turn.refl _ _).alloc _, none, 0, rfl, Blk.new _ _ _, World.ownsRow_nil _ _ _ _, by simp⟩

set_option maxHeartbeats 400000 in
theorem under_nil (w : World) : Calls Try.prog 32 #[.pointer none] w fun e w' => e = .returned (.pointer none) ∧ w = w' := by
  go_enter Try.func32, Try.ntmps32
  go_wp2
  go_ret
  exact ⟨rfl, rfl⟩
set_option maxHeartbeats 400000 in
theorem under_at (w : World) (b : Nat) : Calls Try.prog 32 #[.pointer (some ⟨b, 0, none⟩)] w fun e w' => e = .returned (.pointer (some ⟨b, 0, none⟩)) ∧ w = w' := by
  go_enter Try.func32, Try.ntmps32
  go_wp2
  go_ret
  exact ⟨rfl, rfl⟩

set_option maxHeartbeats 400000 in
theorem tlen_nil (w : World) : Calls Try.prog 33 #[.pointer none] w fun e w' => e = .returned (.int .i64 0) ∧ w = w' := by
  go_enter Try.func33, Try.ntmps33
  go_wp2
  go_ret
  exact ⟨rfl, rfl⟩
set_option maxHeartbeats 400000 in
theorem tlen_cell (w : World) (b : Nat) (A : Option Addr) (n c : Nat) (h : w.cell? ⟨b, 0, none⟩ = some (.slice A n c)) :
    Calls Try.prog 33 #[.pointer (some ⟨b, 0, none⟩)] w fun e w' => e = .returned (.int .i64 n) ∧ w = w' := by
  go_enter Try.func33, Try.ntmps33
  go_wp2
  go_ret
  exact ⟨rfl, rfl⟩
theorem Idx.cell {w : World} {F : List Nat} {b : Nat} {l : List En} (h : Idx w F b l) : ∃ A c, w.cell? ⟨b, 0, none⟩ = some (.slice A l.length c) ∧ Reads w 2 A l.length (ents l) ∧ l.length * 16 ≤ 140737488355328 ∧ b < w.heap.size := by
  obtain ⟨A, c, rfl, hb, ho, hsz⟩ := h
  exact ⟨A, c, hb.cell 0, Reads.of_own ho, hsz, hb.lt⟩
theorem tlen_at {w : World} {F : List Nat} {b : Nat} {l : List En} (h : Idx w F b l) :
    Calls Try.prog 33 #[.pointer (some ⟨b, 0, none⟩)] w fun e w' => e = .returned (.int .i64 l.length) ∧ w = w' := by
  obtain ⟨A, c, hc, _⟩ := h.cell
  exact tlen_cell w b A _ c hc

set_option maxHeartbeats 400000 in
theorem len_nil (w : World) : Calls Try.prog 12 #[.pointer none] w fun e w' => e = .returned (.int .i64 0) ∧ w = w' := by
  go_enter Try.func12, Try.ntmps12
  go_wp2_with (first | (go_at_call 32; refine (under_nil _).mono ?_; rintro e w' ⟨rfl, rfl⟩) | (go_at_call 33; refine (tlen_nil _).mono ?_; rintro e w' ⟨rfl, rfl⟩))
  go_ret
  exact ⟨rfl, rfl⟩
set_option maxHeartbeats 400000 in
theorem len_at {w : World} {F : List Nat} {b : Nat} {l : List En} (h : Idx w F b l) :
    Calls Try.prog 12 #[.pointer (some ⟨b, 0, none⟩)] w fun e w' => e = .returned (.int .i64 l.length) ∧ w = w' := by
  have H := hide h
  clear h
  go_enter Try.func12, Try.ntmps12
  go_wp2_with (first | (go_at_call 32; refine (under_at _ _).mono ?_; rintro e w' ⟨rfl, rfl⟩) | (go_at_call 33; refine (tlen_at H.out).mono ?_; rintro e w' ⟨rfl, rfl⟩))
  go_ret
  exact ⟨rfl, rfl⟩

def Ent (r : En × Bool) (w : World) (e : Ending) (w' : World) : Prop := e = .returned (.tuple #[.agg #[.int .i64 r.1.1, .int .i64 r.1.2], .bool r.2]) ∧ Turn [] w w'

set_option maxHeartbeats 400000 in
theorem tentry_in (w : World) (b g off : Nat) (n c : Nat) (h : w.cell? ⟨b, 0, none⟩ = some (.slice (some ⟨g, off, none⟩) n c)) (k : Nat) (hk : k < n) (hn : n ≤ 9223372036854775807) (x y : Int)
   (hx : w.cell? ⟨g, off + k * 2, none⟩ = some (.int .i64 x)) (hy : w.cell? ⟨g, off + k * 2 + 1, none⟩ = some (.int .i64 y)) (hb : b < w.heap.size) (hab : g < w.heap.size) :
    Calls Try.prog 57 #[.pointer (some ⟨b, 0, none⟩), .int .i64 k] w (Ent ((x, y), true) w) := by
  go_enter Try.func57, Try.ntmps57
  go_wp2_with (go_at_call 33; refine (tlen_cell _ b (some ⟨g, off, none⟩) n c (by go_simp)).mono ?_; rintro e w' ⟨rfl, rfl⟩)
  exact bodyPost_ret (v := .tuple #[.agg #[.int .i64 x, .int .i64 y], .bool true]) (by simp [results, Try.results57, go_sem]) rfl ⟨rfl, ((Turn.refl _ _).alloc _)⟩
set_option maxHeartbeats 400000 in
theorem tentry_out (w : World) (b : Nat) (A : Option Addr) (n c : Nat) (h : w.cell? ⟨b, 0, none⟩ = some (.slice A n c)) (i : Int) (hi : i < 0 ∨ n ≤ i) (hb : b < w.heap.size) :
    Calls Try.prog 57 #[.pointer (some ⟨b, 0, none⟩), .int .i64 i] w (Ent ((0, 0), false) w) := by
  rcases hi with hi | hi
  · go_enter Try.func57, Try.ntmps57
    go_wp2_with (go_at_call 33; refine (tlen_cell _ b A n c (by go_simp)).mono ?_; rintro e w' ⟨rfl, rfl⟩)
    exact bodyPost_ret (v := .tuple #[.agg #[.int .i64 0, .int .i64 0], .bool false]) (by simp [results, Try.results57, go_sem]) rfl ⟨rfl, ((Turn.refl _ _).alloc _)⟩
  · have hi' : ¬ i < 0 := by omega
    go_enter Try.func57, Try.ntmps57
    go_wp2_with (go_at_call 33; refine (tlen_cell _ b A n c (by go_simp)).mono ?_; rintro e w' ⟨rfl, rfl⟩)
    exact bodyPost_ret (v := .tuple #[.agg #[.int .i64 0, .int .i64 0], .bool false]) (by simp [results, Try.results57, go_sem]) rfl ⟨rfl, ((Turn.refl _ _).alloc _)⟩
set_option maxHeartbeats 400000 in
theorem tentry_nil (w : World) (i : Int) : Calls Try.prog 57 #[.pointer none, .int .i64 i] w (Ent ((0, 0), false) w) := by
  by_cases hi : i < 0
  · go_enter Try.func57, Try.ntmps57
    go_wp2_with (go_at_call 33; refine (tlen_nil _).mono ?_; rintro e w' ⟨rfl, rfl⟩)
    exact bodyPost_ret (v := .tuple #[.agg #[.int .i64 0, .int .i64 0], .bool false]) (by simp [results, Try.results57, go_sem]) rfl ⟨rfl, ((Turn.refl _ _).alloc _)⟩
  · have hi' : 0 ≤ i := by omega
    go_enter Try.func57, Try.ntmps57
    go_wp2_with (go_at_call 33; refine (tlen_nil _).mono ?_; rintro e w' ⟨rfl, rfl⟩)
    exact bodyPost_ret (v := .tuple #[.agg #[.int .i64 0, .int .i64 0], .bool false]) (by simp [results, Try.results57, go_sem]) rfl ⟨rfl, ((Turn.refl _ _).alloc _)⟩
theorem tentry_at {w : World} {F : List Nat} {b : Nat} {l : List En} (h : Idx w F b l) (i : Int) :
    Calls Try.prog 57 #[.pointer (some ⟨b, 0, none⟩), .int .i64 i] w (Ent (entryOf l i) w) := by
  obtain ⟨A, c, hc, hr, hm, hb⟩ := h.cell
  by_cases hi : 0 ≤ i ∧ i < l.length
  · obtain ⟨k, rfl⟩ := Int.eq_ofNat_of_zero_le hi.1
    have hk : k < l.length := by omega
    obtain ⟨g, off, rfl, hg, hx, hy⟩ := reads_ent hr hk
    rw [show (((k : Nat) : Int) : Int) = (k : Int) from rfl, entryOf_in hk]
    exact tentry_in w b g off _ c hc k hk (by omega) _ _ hx hy hb hg
  · rw [entryOf_out (by omega)]
    exact tentry_out w b A _ c hc i (by omega) hb

set_option maxHeartbeats 400000 in
theorem entry_nil (w : World) (i : Int) : Calls Try.prog 34 #[.pointer none, .int .i64 i] w (Ent ((0, 0), false) w) := by
  go_enter Try.func34, Try.ntmps34
  go_wp2_with (first | (go_at_call 32; refine (under_nil _).mono ?_; rintro e w' ⟨rfl, rfl⟩) | (go_at_call 57; refine (tentry_nil _ _).mono ?_; rintro e w1 ⟨rfl, ht⟩; obtain ⟨hc, hf, hz⟩ := box_kept ht))
  exact bodyPost_ret (v := .tuple #[.agg #[.int .i64 0, .int .i64 0], .bool false]) (by simp [results, Try.results34, go_sem, hc, hf, hz]) rfl ⟨rfl, ((turn_box ht).setCell (.inr (by simp)) _).setCell (.inr (by simp)) _⟩
set_option maxHeartbeats 400000 in
theorem entry_at {w : World} {F : List Nat} {b : Nat} {l : List En} (h : Idx w F b l) (i : Int) : Calls Try.prog 34 #[.pointer (some ⟨b, 0, none⟩), .int .i64 i] w (Ent (entryOf l i) w) := by
  have H := hide (fun o => h.turn0 ((Turn.refl _ _).alloc o))
  clear h
  go_enter Try.func34, Try.ntmps34
  go_wp2_with (first | (go_at_call 32; refine (under_at _ _).mono ?_; rintro e w' ⟨rfl, rfl⟩) | (go_at_call 57; refine (tentry_at (H.out _) _).mono ?_; rintro e w1 ⟨rfl, ht⟩; obtain ⟨hc, hf, hz⟩ := box_kept ht))
  exact bodyPost_ret (v := .tuple #[.agg #[.int .i64 (entryOf l i).1.1, .int .i64 (entryOf l i).1.2], .bool (entryOf l i).2]) (by simp [results, Try.results34, go_sem, hc, hf, hz]) rfl ⟨rfl, ((turn_box ht).setCell (.inr (by simp)) _).setCell (.inr (by simp)) _⟩
set_option maxHeartbeats 400000 in
theorem tlast_nil (w : World) : Calls Try.prog 46 #[.pointer none] w (Ent ((0, 0), false) w) := by
  go_enter Try.func46, Try.ntmps46
  go_wp2_with (first | (go_at_call 33; refine (tlen_nil _).mono ?_; rintro e w' ⟨rfl, rfl⟩) | (go_at_call 57; refine (tentry_nil _ _).mono ?_; rintro e w1 ⟨rfl, ht⟩; obtain ⟨hc, hf, hz⟩ := box_kept ht))
  exact bodyPost_ret (v := .tuple #[.agg #[.int .i64 0, .int .i64 0], .bool false]) (by simp [results, Try.results46, go_sem, hc, hf, hz]) rfl ⟨rfl, ((turn_box ht).setCell (.inr (by simp)) _).setCell (.inr (by simp)) _⟩
set_option maxHeartbeats 400000 in
theorem tlast_at {w : World} {F : List Nat} {b : Nat} {l : List En} (h : Idx w F b l) : Calls Try.prog 46 #[.pointer (some ⟨b, 0, none⟩)] w (Ent (lastOf l) w) := by
  have hm : l.length * 16 ≤ 140737488355328 := by obtain ⟨_, _, _, _, hm, _⟩ := h.cell; exact hm
  have H := hide (fun o => h.turn0 ((Turn.refl _ _).alloc o))
  have T := hide (fun o => tentry_at (h.turn0 ((Turn.refl _ _).alloc o)) ((l.length : Int) - 1))
  clear h
  go_enter Try.func46, Try.ntmps46
  go_wp2_with (first | (go_at_call 33; refine (tlen_at (H.out _)).mono ?_; rintro e w' ⟨rfl, rfl⟩) | (go_at_call 57; refine (T.out _).mono ?_; rintro e w1 ⟨rfl, ht⟩; obtain ⟨hc, hf, hz⟩ := box_kept ht))
  exact bodyPost_ret (v := .tuple #[.agg #[.int .i64 (lastOf l).1.1, .int .i64 (lastOf l).1.2], .bool (lastOf l).2]) (by simp [results, Try.results46, go_sem, hc, hf, hz, lastOf]) rfl ⟨rfl, ((turn_box ht).setCell (.inr (by simp)) _).setCell (.inr (by simp)) _⟩
set_option maxHeartbeats 400000 in
theorem last_nil (w : World) : Calls Try.prog 22 #[.pointer none] w (Ent ((0, 0), false) w) := by
  go_enter Try.func22, Try.ntmps22
  go_wp2_with (first | (go_at_call 32; refine (under_nil _).mono ?_; rintro e w' ⟨rfl, rfl⟩) | (go_at_call 46; refine (tlast_nil _).mono ?_; rintro e w1 ⟨rfl, ht⟩; obtain ⟨hc, hf, hz⟩ := box_kept ht))
  exact bodyPost_ret (v := .tuple #[.agg #[.int .i64 0, .int .i64 0], .bool false]) (by simp [results, Try.results22, go_sem, hc, hf, hz]) rfl ⟨rfl, ((turn_box ht).setCell (.inr (by simp)) _).setCell (.inr (by simp)) _⟩
set_option maxHeartbeats 400000 in
theorem last_at {w : World} {F : List Nat} {b : Nat} {l : List En} (h : Idx w F b l) : Calls Try.prog 22 #[.pointer (some ⟨b, 0, none⟩)] w (Ent (lastOf l) w) := by
  have H := hide (fun o => h.turn0 ((Turn.refl _ _).alloc o))
  clear h
  go_enter Try.func22, Try.ntmps22
  go_wp2_with (first | (go_at_call 32; refine (under_at _ _).mono ?_; rintro e w' ⟨rfl, rfl⟩) | (go_at_call 46; refine (tlast_at (H.out _)).mono ?_; rintro e w1 ⟨rfl, ht⟩; obtain ⟨hc, hf, hz⟩ := box_kept ht))
  exact bodyPost_ret (v := .tuple #[.agg #[.int .i64 (lastOf l).1.1, .int .i64 (lastOf l).1.2], .bool (lastOf l).2]) (by simp [results, Try.results22, go_sem, hc, hf, hz]) rfl ⟨rfl, ((turn_box ht).setCell (.inr (by simp)) _).setCell (.inr (by simp)) _⟩
end Go.Proofs.Ytgjpaglkcpomnaa

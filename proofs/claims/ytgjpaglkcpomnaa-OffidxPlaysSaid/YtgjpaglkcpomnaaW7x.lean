/- The entries as a list, as bytes: walked. -/
import Derived.Test.YtgjpaglkcpomnaaW5x
import Derived.Test.YtgjpaglkcpomnaaRead2
import Derived.Test.YtgjpaglkcpomnaaWirePlain
namespace Go.Proofs.Ytgjpaglkcpomnaa
set_option linter.unusedVariables false
set_option linter.unusedSimpArgs false
open Go.RowKit K

/-- a new list of entries. -/
def Fresh (L : List En) (w : World) (e : Ending) (w' : World) : Prop :=
  ∃ A c, e = .returned (.slice A L.length c) ∧ Turn [] w w' ∧ w'.ownsRow 0 30 2 (.slice A L.length c) L.length (ents L) ∧ ∀ k ∈ blockOf A, w.heap.size ≤ k

set_option maxHeartbeats 400000 in
set_option maxRecDepth 100000 in
theorem clone_nil (w : World) (c : Nat) : Calls Try.prog 58 #[.slice none 0 c] w (Fresh [] w) := by
  have hq := fun (wx : World) => Lib.run_eql_slice_nil (P := Try.prog) wx 23 30 none 0 c 0 0 Try.underlying23
  go_enter Try.func58, Try.ntmps58
  go_wp2
  go_ret
  exact ⟨none, 0, rfl, Turn.refl _ _, World.ownsRow_nil _ _ _ _, by simp [blockOf]⟩
set_option maxHeartbeats 400000 in
set_option maxRecDepth 100000 in
theorem clone_some {w : World} {a : Addr} {L : List En} (c : Nat) (hr : Reads w 2 (some a) L.length (ents L)) (hsz : L.length * 16 ≤ 140737488355328) : Calls Try.prog 58 #[.slice (some a) L.length c] w (Fresh L w) := by
  obtain ⟨i0, hi0, hz0, hz1, hz2⟩ := info_parts info30
  have hq := fun (wx : World) => Lib.run_eql_slice_nil (P := Try.prog) wx 23 30 (some a) L.length c 0 0 Try.underlying23
  have HR := hide hr
  clear hr
  go_enter Try.func58, Try.ntmps58
  go_wp2_with (at_builtin; refine wpList_append_reads _ rfl (.tmp 5) (.tmp 6) 23 rfl 0 30 i0 _ 2 16 Try.underlying23 hi0 hz0 hz1 hz2 rfl (by decide) (.slice (some ⟨w.heap.size, 0, none⟩) 0 0) 0 [] rfl ?h1 (some a) L.length c (ents L) rfl (HR.out.turn0 ((Turn.refl [] _).alloc _)) (ents_oneCell _) (by unfold maxLen; omega) (by omega) (Nat.zero_le _) ?_)
  case h1 => exact ⟨by simp, .inr ⟨w.heap.size, 0, #[], rfl, Nat.zero_le _, heap_alloc_new w _, Nat.le_refl _, by unfold maxLen; omega, rfl, rfl⟩⟩
  intro v1 w1 ho hg hb hn
  obtain ⟨A1, c1, rfl⟩ := own_form ho
  go_wp2
  go_ret
  refine ⟨A1, c1, rfl, ?_, by simpa using ho, ?_⟩
  · exact ((Turn.refl [] w).alloc _).grown hg (fun g hg' => .inr (by simp [Value.ownBlock] at hg'; omega))
  · intro k hk
    have hk' : (Value.slice A1 L.length c1).ownBlock = some k := by rw [ownBlock_slice]; simpa [blockOf] using hk
    rcases hb with hb | hb <;> rw [hb] at hk' <;> simp [Value.ownBlock] at hk' <;> omega
theorem clone_reads {w : World} {A : Option Addr} {L : List En} (c : Nat) (hr : Reads w 2 A L.length (ents L)) (hsz : L.length * 16 ≤ 140737488355328) : Calls Try.prog 58 #[.slice A L.length c] w (Fresh L w) := by
  cases A with
  | some a => exact clone_some c hr hsz
  | none =>
    have : L = [] := by
      rcases Nat.eq_zero_or_pos L.length with h | h
      · exact List.eq_nil_of_length_eq_zero h
      · obtain ⟨_, _, h, _⟩ := hr.2 h; cases h
    subst this
    exact clone_nil w c

set_option maxHeartbeats 400000 in
theorem tentries_nil (w : World) : Calls Try.prog 44 #[.pointer none] w (Fresh [] w) := by
  go_enter Try.func44, Try.ntmps44
  go_wp2
  go_ret
  exact ⟨none, 0, rfl, Turn.refl _ _, World.ownsRow_nil _ _ _ _, by simp [blockOf]⟩
set_option maxHeartbeats 400000 in
theorem tentries_at {w : World} {F : List Nat} {b : Nat} {l : List En} (h : Idx w F b l) : Calls Try.prog 44 #[.pointer (some ⟨b, 0, none⟩)] w (Fresh l w) := by
  obtain ⟨A, c, hc, hr, hsz, hb⟩ := h.cell
  have HC := hide (clone_reads c hr hsz)
  clear h hr
  go_enter Try.func44, Try.ntmps44
  go_wp2_with (go_at_call 58; refine HC.out.mono ?_; rintro e w1 ⟨A1, c1, rfl, ht, ho, hn⟩)
  go_ret
  exact ⟨A1, c1, rfl, ht, ho, hn⟩
set_option maxHeartbeats 400000 in
theorem entries_nil (w : World) : Calls Try.prog 20 #[.pointer none] w (Fresh [] w) := by
  go_enter Try.func20, Try.ntmps20
  go_wp2_with (first | (go_at_call 32; refine (under_nil _).mono ?_; rintro e w' ⟨rfl, rfl⟩) | (go_at_call 44; refine (tentries_nil _).mono ?_; rintro e w1 ⟨A1, c1, rfl, ht, ho, hn⟩))
  go_ret
  exact ⟨A1, c1, rfl, ht, ho, hn⟩
set_option maxHeartbeats 400000 in
theorem entries_at {w : World} {F : List Nat} {b : Nat} {l : List En} (h : Idx w F b l) : Calls Try.prog 20 #[.pointer (some ⟨b, 0, none⟩)] w (Fresh l w) := by
  have HC := hide (tentries_at h)
  clear h
  go_enter Try.func20, Try.ntmps20
  go_wp2_with (first | (go_at_call 32; refine (under_at _ _).mono ?_; rintro e w' ⟨rfl, rfl⟩) | (go_at_call 44; refine HC.out.mono ?_; rintro e w1 ⟨A1, c1, rfl, ht, ho, hn⟩))
  go_ret
  exact ⟨A1, c1, rfl, ht, ho, hn⟩

/-- the bytes of entries. -/
def putB (l : List En) : List UInt8 := l.flatMap fun e => Wire.be8 e.1 ++ Wire.be8 e.2
theorem putB_length (l : List En) : (putB l).length = l.length * 16 := by
  induction l with
  | nil => rfl
  | cons e l ih => simp only [putB, List.flatMap_cons, List.length_append, Wire.be8_length, List.length_cons] at ih ⊢; omega
theorem putB_take (l : List En) (k : Nat) (h : k < l.length) : putB (l.take (k + 1)) = putB (l.take k) ++ Wire.be8 l[k].1 ++ Wire.be8 l[k].2 := by
  rw [List.take_succ_eq_append_getElem h]
  unfold putB
  rw [List.flatMap_append]
  simp

def Str (bs : List UInt8) (w : World) (e : Ending) (w' : World) : Prop := e = .returned (.string (strOf bs)) ∧ Turn [] w w'

set_option maxHeartbeats 1600000 in
set_option maxRecDepth 100000 in
theorem put_reads {w : World} {A : Option Addr} {L : List En} (c : Nat) (hr : Reads w 2 A L.length (ents L)) (hsz : L.length * 16 ≤ 140737488355328) : Calls Try.prog 25 #[.slice A L.length c] w (Str (putB L) w) := by
  have HR := hide hr
  clear hr
  go_enter Try.func25, Try.ntmps25
  go_wp2_with fail
  refine (Wire.newWriter _).mono ?_
  rintro e w1 ⟨F, b, rfl, ht, hw, hF⟩
  have HW := hide hw
  have HT := hide ht
  have HF := hide hF
  clear hw ht hF
  go_wp2_with fail
  go_loopw [9] (fun i wr => ∃ (k : Nat) (F : List Nat), k ≤ L.length ∧ i = .int .i64 k ∧ Wire.Wr wr F b (putB (L.take k)) ∧ Turn [] w wr ∧ ∀ x ∈ F, w.heap.size ≤ x) (fun i _ => L.length - (intOf i).toNat)
  case atStart => exact ⟨0, F, Nat.zero_le _, rfl, HW.out, HT.out, HF.out⟩
  case round =>
    obtain ⟨k, F, hk, rfl, hw, ht, hF⟩ := hrel
    by_cases hlt : k < L.length
    · obtain ⟨g, off, rfl, hg, hx, hy⟩ := reads_ent (HR.out.turn0 ht) hlt
      have HP := hide (putB_take L k hlt)
      have hl : (putB (L.take k)).length + 16 ≤ 140737488355328 := by rw [putB_length, List.length_take]; omega
      obtain ⟨x, hex⟩ : ∃ x, x = L[k].1 := ⟨_, rfl⟩
      obtain ⟨y, hey⟩ : ∃ y, y = L[k].2 := ⟨_, rfl⟩
      rw [← hex] at hx HP
      rw [← hey] at hy HP
      obtain ⟨bs, hbs⟩ : ∃ bs, bs = putB (L.take k) := ⟨_, rfl⟩
      rw [← hbs] at hl HP hw
      clear hex hey hbs
      have HW := hide hw
      have HT := hide ht
      have HF := hide hF
      clear hw ht hF
      go_wp2_with fail
      refine (Wire.i64_at (HW.out.turn0 ((Turn.refl _ _).alloc _)) x (by omega)).mono ?_
      rintro e w3 ⟨F3, rfl, ht3, hw3, hF3⟩
      have hBx := (Blk.new wr 30 #[.int .i64 x, .int .i64 y]).turn ht3 (fun hk => by have := HW.out.lt _ hk; omega)
      have hcx := hBx.cell
      have hzx := hBx.lt
      have HW3 := hide hw3
      have HF3 : Hid (∀ k ∈ F3, k ∈ F ∨ wr.heap.size ≤ k) := hide (fun k hk => (hF3 k hk).imp id (fun h => by simp at h; omega))
      have HT3 := hide (Turn.pre (w := wr) ((Turn.refl [] wr).alloc _) ht3)
      clear hw3 hF3 ht3 hBx
      go_wp2_with fail
      refine (Wire.i64_at HW3.out y (by rw [List.length_append, Wire.be8_length]; omega)).mono ?_
      rintro e w4 ⟨F4, rfl, ht4, hw4, hF4⟩
      have hn3 : ∀ x ∈ F3, w.heap.size ≤ x := fun x hx => by
        rcases HF3.out x hx with h | h
        · exact HF.out x h
        · have := HT.out.size; omega
      have HW4 := hide hw4
      have HT4 := hide ((HT.out.trans HT3.out (fun x hx => .inr (HF.out x hx))).trans ht4 (fun x hx => .inr (hn3 x hx)))
      have HN4 : Hid (∀ x ∈ F4, w.heap.size ≤ x) := hide (fun x hx => by
        rcases hF4 x hx with h | h
        · exact hn3 x h
        · have := HT.out.size; have := HT3.out.size; omega)
      clear hw4 ht4 hF4 hn3
      go_wp2_with fail
      exact ⟨⟨k + 1, F4, by omega, by go_num, by rw [HP.out]; exact HW4.out, HT4.out, HN4.out⟩, by simp [intOf]; omega⟩
    · obtain rfl : k = L.length := by omega
      rw [List.take_length] at hw
      have HW := hide hw
      have HT := hide ht
      clear hw ht
      go_wp2_with (go_at_call 52; refine (Wire.bytes_at HW.out).mono ?_; rintro e w' ⟨rfl, rfl⟩)
      go_ret
      exact ⟨rfl, HT.out⟩
end Go.Proofs.Ytgjpaglkcpomnaa

/- Two indexes that hold the same entries: what is found in both. -/
import Derived.Test.YtlnjemdnmndnfaaT3x
namespace Go.Proofs.Ytlnjemdnmndnfaa
set_option linter.unusedVariables false
set_option linter.unusedSimpArgs false
open Go.RowKit K

/-- the program's index in block b and the document's in block d hold l; S: the blocks that are their own. -/
def Pair (w : World) (S : List Nat) (b d : Nat) (l : List En) : Prop := ∃ F G, S = F ++ G ∧ Ix 45 w F b l ∧ Ix 34 w G d l ∧ (∀ k ∈ F, k ∉ G) ∧ Mono l
theorem Pair.turn {w w1 : World} {S H : List Nat} {b d : Nat} {l : List En} (h : Pair w S b d l) (ht : Turn H w w1) (hd : ∀ k ∈ S, k ∉ H) : Pair w1 S b d l := by
  obtain ⟨F, G, rfl, hx, hy, ha, hr⟩ := h
  exact ⟨F, G, rfl, hx.turn ht (fun k hk => hd k (by simp [hk])), hy.turn ht (fun k hk => hd k (by simp [hk])), ha, hr⟩
theorem Pair.turn0 {w w1 : World} {S : List Nat} {b d : Nat} {l : List En} (h : Pair w S b d l) (ht : Turn [] w w1) : Pair w1 S b d l := h.turn ht (by simp)
theorem Pair.lt {w : World} {S : List Nat} {b d : Nat} {l : List En} (h : Pair w S b d l) : ∀ k ∈ S, k < w.heap.size := by
  obtain ⟨F, G, rfl, hx, hy, ha, hr⟩ := h
  intro k hk
  rcases List.mem_append.1 hk with hk | hk
  · exact hx.lt k hk
  · exact hy.lt k hk
theorem Pair.size {w : World} {S : List Nat} {b d : Nat} {l : List En} (h : Pair w S b d l) : l.length * 16 ≤ 140737488355328 := by
  obtain ⟨F, G, rfl, hx, hy, ha, hr⟩ := h
  exact hx.size
theorem Pair.new {w1 w2 : World} {b d : Nat} (hx : Ix 45 w1 [b] b []) (hy : Ix 34 w2 [d] d []) (ht : Turn [] w1 w2) (hd : w1.heap.size ≤ d) : Pair w2 ([b] ++ [d]) b d [] :=
  ⟨[b], [d], rfl, hx.turn0 ht, hy, by
    intro k hk hk'
    have := hx.lt k hk
    simp at hk hk'
    omega, mono_nil⟩
/-- a call on both has left the entries L. -/
def Both (S : List Nat) (b d : Nat) (L : List En) (w w' : World) : Prop := ∃ S', Pair w' S' b d L ∧ Turn S w w' ∧ ∀ k ∈ S', k ∈ S ∨ w.heap.size ≤ k
/-- both indexes have been turned, the program's first. -/
theorem both_xy {w w1 w2 w3 w4 w5 : World} {F G F' G' : List Nat} {b d : Nat} {l L : List En} (hx : Ix 45 w F b l) (hy : Ix 34 w G d l) (ha : ∀ k ∈ F, k ∉ G) (hr : Mono L)
    (t1 : Turn [] w w1) (t2 : Turn F w1 w2) (hx' : Ix 45 w2 F' b L) (hF : ∀ k ∈ F', k ∈ F ∨ w1.heap.size ≤ k) (t3 : Turn [] w2 w3) (t4 : Turn G w3 w4) (hy' : Ix 34 w4 G' d L) (hG : ∀ k ∈ G', k ∈ G ∨ w3.heap.size ≤ k) (t5 : Turn [] w4 w5) :
    Both (F ++ G) b d L w w5 := by
  have s1 := t1.size
  have s2 := t2.size
  have s3 := t3.size
  have hFG : ∀ k ∈ F', k ∉ G := fun k hk => by
    rcases hF k hk with h | h
    · exact ha k h
    · intro h'; have := hy.lt k h'; omega
  refine ⟨F' ++ G', ⟨F', G', rfl, ((hx'.turn0 t3).turn t4 hFG).turn0 t5, hy'.turn0 t5, ?_, hr⟩, ?_, ?_⟩
  · intro k hk hk'
    rcases hG k hk' with h | h
    · exact hFG k hk h
    · have := hx'.lt k hk; omega
  · have h1 : Turn (F ++ G) w w2 := (t1.mono (by simp)).trans t2 (fun x hx => .inl (by simp [hx]))
    exact ((h1.trans0 t3).trans t4 (fun x hx => .inl (by simp [hx]))).trans0 t5
  · intro k hk
    rcases List.mem_append.1 hk with h | h
    · rcases hF k h with h | h
      · exact .inl (by simp [h])
      · exact .inr (by omega)
    · rcases hG k h with h | h
      · exact .inl (by simp [h])
      · exact .inr (by omega)
theorem Both.split {w : World} {S : List Nat} {b d : Nat} {l : List En} (h : Pair w S b d l) : ∃ F G, S = F ++ G ∧ Ix 45 w F b l ∧ Ix 34 w G d l ∧ (∀ k ∈ F, k ∉ G) ∧ Mono l := h

/-- the looks are few. -/
theorem kOf_few (l : List En) (t : Int) (hm : Mono l) : ∀ (f i j k : Nat), Srch l (t - 1) k i j → f + k = 64 → l.length ≤ 9223372036854775807 → ∃ i', Srch l (t - 1) (k + kOf l t f i j) i' i' := by
  intro f
  induction f with
  | zero =>
    intro i j k h hf hl
    have hk : ¬ i < j := fun hij => by
      have := h.k_lt hl
      omega
    have hij := h.ij
    obtain rfl : i = j := by omega
    exact ⟨i, by rw [kOf]; exact h⟩
  | succ f ih =>
    intro i j k h hf hl
    by_cases hij : i < j
    · have hjn := h.jn
      have hml : (i + j) / 2 < l.length := by omega
      rw [kOf_step l t hij rfl hml]
      by_cases hc : l[(i + j) / 2].1 < t
      · rw [if_pos hc, ← Nat.add_assoc]
        exact ih _ _ (k + 1) (h.right hm hij rfl hml (by omega)) (by omega) hl
      · rw [if_neg hc, ← Nat.add_assoc]
        exact ih _ _ (k + 1) (h.left hm hij rfl hml (by omega)) (by omega) hl
    · have h2 := h.ij
      obtain rfl : i = j := by omega
      exact ⟨i, by rw [kOf_end]; exact h⟩
theorem looks_was (l : List En) (t : Int) (hm : Mono l) (hsz : l.length * 16 ≤ 140737488355328) : looksOf l t = 0 ∨ 2 ^ (looksOf l t - 1) ≤ l.length := by
  obtain ⟨i, h⟩ := kOf_few l t hm 64 0 l.length 0 (Srch.start l _) rfl (by omega)
  rw [Nat.zero_add] at h
  exact h.was
theorem looks_of (l : List En) (t : Int) (hm : Mono l) (hsz : l.length * 16 ≤ 140737488355328) : ∀ K, Lks l.length K → (looksOf l t : Int) ≤ K := fun K hK =>
  looks_enough (looks_was l t hm hsz) (fun h0 => by
    have := List.eq_nil_of_length_eq_zero h0
    subst this
    exact kOf_end _ _ _ _) hK
set_option maxHeartbeats 3200000 in
set_option maxRecDepth 100000 in
theorem found_any {w : World} {S : List Nat} {b d : Nat} {l : List En} (h : Pair w S b d l) (t : Int) : Calls Try.prog 14 #[.pointer (some ⟨b, 0, none⟩), .pointer (some ⟨d, 0, none⟩), .int .i64 t] w (Same (.bool true) w) := by
  have hsz := h.size
  obtain ⟨F, G, rfl, hx, hy, ha, hr⟩ := h
  have HY := hide (fun wx (ht : Turn [] w wx) => hy.turn0 ht)
  obtain ⟨⟨⟨p, q⟩, ok⟩, hfr⟩ : ∃ r, findOf l t = r := ⟨_, rfl⟩
  have HFd : Hid (∀ wx, Turn [] w wx → Calls Try.prog 15 #[.pointer (some ⟨b, 0, none⟩), .int .i64 t] wx fun e w' => e = .returned (.tuple #[.agg #[.int .i64 p, .int .i64 q], .int .i64 (looksOf l t), .bool ok]) ∧ Turn [] wx w') := hide (fun wx ht => (find_at (hx.turn0 ht) hr t).mono fun e w' h => by unfold Finds at h; rw [hfr] at h; exact ⟨h.1, h.2.1⟩)
  have HRd : Hid (∀ wx, Turn [] w wx → Calls Try.prog 29 #[.pointer (some ⟨d, 0, none⟩), .int .i64 t] wx fun e w' => e = .returned (.tuple #[.agg #[.int .i64 p, .int .i64 q], .bool ok]) ∧ Turn [] wx w') := hide (fun wx ht => (rfind (hy.turn0 ht) t).mono fun e w' h => by rw [hfr] at h; exact h)
  have HK : Hid (∀ K, Lks l.length K → (looksOf l t : Int) ≤ K) := hide (looks_of l t hr hsz)
  clear hx hy ha hr hfr
  obtain ⟨n, hn⟩ : ∃ n, n = looksOf l t := ⟨_, rfl⟩
  rw [← hn] at HFd HK
  clear hn
  go_enter Try.func14, Try.ntmps14
  go_wp2_with fail
  refine (HFd.out _ (by repeat first | exact Turn.refl _ _ | exact (show Hid (Turn [] _ _) by assumption).out | refine Turn.drew ?_ | refine Turn.drewN ?_ _ | refine Turn.alloc ?_ _)).mono ?_
  rintro e w1 ⟨rfl, ht1⟩
  have HT1 := hide ht1
  clear ht1
  go_wp2_with fail
  refine (HFd.out _ (by repeat first | exact Turn.refl _ _ | exact (show Hid (Turn [] _ _) by assumption).out | refine Turn.drew ?_ | refine Turn.drewN ?_ _ | refine Turn.alloc ?_ _)).mono ?_
  rintro e w2 ⟨rfl, ht2⟩
  have HB1 := hide (Blk.turn (Blk.new w1 29 #[.int .i64 p, .int .i64 q]) ht2 (by simp))
  have HT2 := hide (Turn.pre (w := w) (by repeat first | exact Turn.refl _ _ | exact (show Hid (Turn [] _ _) by assumption).out | refine Turn.drew ?_ | refine Turn.drewN ?_ _ | refine Turn.alloc ?_ _) ht2)
  clear ht2
  go_wp2_with fail
  refine (HRd.out _ (by repeat first | exact Turn.refl _ _ | exact (show Hid (Turn [] _ _) by assumption).out | refine Turn.drew ?_ | refine Turn.drewN ?_ _ | refine Turn.alloc ?_ _)).mono ?_
  rintro e w3 ⟨rfl, ht3⟩
  have HB2 := hide (Blk.turn (Blk.new w2 29 #[.int .i64 p, .int .i64 q]) ht3 (by simp))
  have HB1' := hide (Blk.turn (HB1.out.alloc (.cells #[.int .i64 p, .int .i64 q] 29)) ht3 (by simp))
  have HT3 := hide (Turn.pre (w := w) (by repeat first | exact Turn.refl _ _ | exact (show Hid (Turn [] _ _) by assumption).out | refine Turn.drew ?_ | refine Turn.drewN ?_ _ | refine Turn.alloc ?_ _) ht3)
  have c1a := HB1'.out.cell 0
  have c1b := HB1'.out.cell 1
  have c2a := HB2.out.cell 0
  have c2b := HB2.out.cell 1
  have z1 := HB1'.out.lt
  have z2 := HB2.out.lt
  have hn0 : (0 : Int) ≤ (n : Int) := by omega
  clear ht3 HB1
  go_wp2_with fail
  refine (rlen (HY.out _ (by repeat first | exact Turn.refl _ _ | exact (show Hid (Turn [] _ _) by assumption).out | refine Turn.drew ?_ | refine Turn.drewN ?_ _ | refine Turn.alloc ?_ _))).mono ?_
  rintro e w4 ⟨rfl, rfl⟩
  go_wp2_with fail
  refine (rprobes _ l.length (by omega)).mono ?_
  rintro e w4 ⟨K, rfl, hK, rfl⟩
  have hle := HK.out K hK
  clear hK
  go_wp2_with fail
  go_ret
  exact ⟨rfl, (by repeat first | exact Turn.refl _ _ | exact (show Hid (Turn [] _ _) by assumption).out | refine Turn.drew ?_ | refine Turn.drewN ?_ _ | refine Turn.alloc ?_ _)⟩
end Go.Proofs.Ytlnjemdnmndnfaa

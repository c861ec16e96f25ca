/- The search and Find, walked; the document's Find and Probes. -/
import Derived.Test.YtlnjemdnmndnfaaT2x
namespace Go.Proofs.Ytlnjemdnmndnfaa
set_option linter.unusedVariables false
set_option linter.unusedSimpArgs false
open Go.RowKit K

set_option maxHeartbeats 800000 in
theorem find1 (w : World) (p5 p7 p3 g off n c k : Nat) (pr x t : Int) (h5 : Blk w p5 3 #[.int .i64 pr]) (h7 : w.cell? ⟨p7, 0, none⟩ = some (.slice (some ⟨g, off, none⟩) n c)) (h3 : w.cell? ⟨p3, 0, none⟩ = some (.int .i64 t)) (hx : w.cell? ⟨g, off + k * 2, none⟩ = some (.int .i64 x))
    (hk : k < n) (hn : n ≤ 9223372036854775807) (hp0 : -9223372036854775808 ≤ pr) (hp1 : pr < 9223372036854775807) (n7 : p7 ≠ p5) (n3 : p3 ≠ p5) (ng : g ≠ p5) :
    Calls Try.prog 34 #[.int .i64 k, .pointer (some ⟨p5, 0, none⟩), .pointer (some ⟨p7, 0, none⟩), .pointer (some ⟨p3, 0, none⟩)] w fun e w' => e = .returned (.bool (decide (t ≤ x))) ∧ Turn [p5] w w' ∧ Blk w' p5 3 #[.int .i64 (pr + 1)] := by
  have hc5 : w.cell? ⟨p5, 0, none⟩ = some (.int .i64 pr) := h5.cell 0
  have hf5 := h5.frozen 0
  have H5 := hide h5
  have hk0 : (0 : Int) ≤ (k : Int) := by omega
  have hk1 : (k : Int) < (n : Int) := by omega
  clear h5
  go_enter Try.func34, Try.ntmps34
  go_wp2_with fail
  have e7 : (w.setCell ⟨p5, 0, none⟩ (.int .i64 (pr + 1))).cell? ⟨p7, 0, none⟩ = some (.slice (some ⟨g, off, none⟩) n c) := by simp [go_sem, n7, h7]
  have e3 : (w.setCell ⟨p5, 0, none⟩ (.int .i64 (pr + 1))).cell? ⟨p3, 0, none⟩ = some (.int .i64 t) := by simp [go_sem, n3, h3]
  have ex : (w.setCell ⟨p5, 0, none⟩ (.int .i64 (pr + 1))).cell? ⟨g, off + k * 2, none⟩ = some (.int .i64 x) := by simp [go_sem, ng, hx]
  have HT := hide (turn_set w p5 0 (.int .i64 (pr + 1)))
  have HB : Hid (Blk (w.setCell ⟨p5, 0, none⟩ (.int .i64 (pr + 1))) p5 3 #[.int .i64 (pr + 1)]) := hide (by simpa using H5.out.set_ 0 (.int .i64 (pr + 1)))
  clear h7 h3 hx hc5 hf5 H5
  generalize w.setCell ⟨p5, 0, none⟩ (.int .i64 (pr + 1)) = w1 at *
  go_quiet (fail)
  go_wp2_with fail
  go_ret
  exact ⟨rfl, HT.out.drewN _, HB.out.drewN _⟩
/-- how many looks the search takes. -/
def kOf (l : List En) (t : Int) : Nat → Nat → Nat → Nat
  | 0, _, _ => 0
  | f + 1, i, j => if i < j then (if (l.getD ((i + j) / 2) (0, 0)).1 < t then 1 + kOf l t f ((i + j) / 2 + 1) j else 1 + kOf l t f i ((i + j) / 2)) else 0
theorem kOf_end (l : List En) (t : Int) (f i : Nat) : kOf l t f i i = 0 := by
  cases f with
  | zero => rfl
  | succ f => simp [kOf]
theorem kOf_step (l : List En) (t : Int) {f i j m : Nat} (h : i < j) (hm : m = (i + j) / 2) (hml : m < l.length) : kOf l t (f + 1) i j = 1 + (if l[m].1 < t then kOf l t f (m + 1) j else kOf l t f i m) := by
  subst hm
  have : l.getD ((i + j) / 2) (0, 0) = l[(i + j) / 2] := by simp [hml]
  rw [kOf, if_pos h, this]
  split <;> rfl
def looksOf (l : List En) (t : Int) : Nat := kOf l t 64 0 l.length
def Searched (l : List En) (t : Int) (p5 : Nat) (w : World) (e : Ending) (w' : World) : Prop := ∃ i : Nat, Srch l (t - 1) (looksOf l t) i i ∧ e = .returned (.int .i64 i) ∧ Turn [p5] w w' ∧ Blk w' p5 3 #[.int .i64 (looksOf l t)]
set_option maxHeartbeats 1600000 in
theorem search_any (w : World) (p5 p7 p3 c : Nat) (A : Option Addr) (l : List En) (t : Int) (hm : Mono l) (h5 : Blk w p5 3 #[.int .i64 0]) (h7 : w.cell? ⟨p7, 0, none⟩ = some (.slice A l.length c)) (h3 : w.cell? ⟨p3, 0, none⟩ = some (.int .i64 t)) (hr : Reads w 2 A l.length (ents l))
    (hn : l.length * 16 ≤ 140737488355328) (hz7 : p7 < w.heap.size) (hz3 : p3 < w.heap.size) (n7 : p7 ≠ p5) (n3 : p3 ≠ p5) (ng : p5 ∉ blockOf A) :
    Calls Try.prog 33 #[.int .i64 l.length, .func (.func 34) #[] #[.pointer (some ⟨p5, 0, none⟩), .pointer (some ⟨p7, 0, none⟩), .pointer (some ⟨p3, 0, none⟩)]] w (Searched l t p5 w) := by
  have HM := hide hm
  have HR := hide hr
  have H5 := hide h5
  have H7 := hide h7
  have H3 := hide h3
  clear hm hr h5 h7 h3
  go_enter Try.func33, Try.ntmps33
  go_wp2_with fail
  go_loopw [5, 6] (fun a b wr => ∃ k i j f : Nat, Srch l (t - 1) k i j ∧ a = .int .i64 i ∧ b = .int .i64 j ∧ Turn [p5] w wr ∧ Blk wr p5 3 #[.int .i64 k] ∧ f + k = 64 ∧ k + kOf l t f i j = looksOf l t) (fun a b _ => (intOf b - intOf a).toNat)
  case atStart => exact ⟨0, 0, l.length, 64, Srch.start l _, rfl, rfl, Turn.refl _ _, H5.out, rfl, Nat.zero_add _⟩
  case round =>
    obtain ⟨k, i, j, f, hs, rfl, rfl, ht, hb, hf, hK⟩ := hrel
    have hij := hs.ij
    have hjn := hs.jn
    have hk := hs.k_lt (by omega)
    have HS := hide hs
    have HT := hide ht
    have HB := hide hb
    have HFk := hide hf
    have HK := hide hK
    clear hs ht hb hf hK
    by_cases hlt : i < j
    · obtain ⟨m, hm0⟩ : ∃ m, m = (i + j) / 2 := ⟨_, rfl⟩
      have hml : m < l.length := by omega
      obtain ⟨g, off, hA, hg, hx, hy⟩ := reads_ent HR.out hml
      have hgp : g ≠ p5 := by rintro rfl; exact ng (by simp [hA, blockOf])
      have HM0 := hide hm0
      have hmi : ((i : Int) + (j : Int)) / 2 = (m : Int) := by omega
      have HC := hide (find1 wr p5 p7 p3 g off l.length c m k l[m].1 t HB.out ((HT.out.cell (p := ⟨p7, 0, none⟩) hz7 (by simpa using n7)).trans (hA ▸ H7.out)) ((HT.out.cell (p := ⟨p3, 0, none⟩) hz3 (by simpa using n3)).trans H3.out) ((HT.out.cell (p := ⟨g, off + m * 2, none⟩) hg (by simpa using hgp)).trans hx) hml (by omega) (by omega) (by omega) n7 n3 hgp)
      clear hm0 hx hy
      have hu : IntKind.u64.wrap ((i : Int) + (j : Int)) = (i : Int) + (j : Int) := by show ((i : Int) + (j : Int)) % 18446744073709551616 = _; omega
      obtain ⟨f', rfl⟩ : ∃ f', f = f' + 1 := ⟨f - 1, by have := HFk.out; omega⟩
      have HK2 := hide (by have := HK.out; rwa [kOf_step l t hlt HM0.out hml] at this : k + (1 + (if l[m].1 < t then kOf l t f' (m + 1) j else kOf l t f' i m)) = looksOf l t)
      by_cases hle : l[m].1 < t
      · have hd : decide (t ≤ l[m].1) = false := by simp; omega
        rw [hd] at HC
        rw [if_pos hle] at HK2
        clear hd
        go_wp2_with fail
        refine HC.out.mono ?_
        rintro e w1 ⟨rfl, ht1, hb1⟩
        have HT1 := hide (HT.out.trans ht1 (fun x hx => .inl hx))
        have HB1 := hide hb1
        clear ht1 hb1
        go_wp2_with fail
        exact ⟨⟨k + 1, m + 1, j, f', HS.out.right HM.out hlt HM0.out hml (by omega), by go_num, rfl, HT1.out, HB1.out, by have := HFk.out; omega, by have := HK2.out; omega⟩, by have := HM0.out; simp [intOf]; omega⟩
      · have hd : decide (t ≤ l[m].1) = true := by simp; omega
        rw [hd] at HC
        rw [if_neg hle] at HK2
        clear hd
        go_wp2_with fail
        refine HC.out.mono ?_
        rintro e w1 ⟨rfl, ht1, hb1⟩
        have HT1 := hide (HT.out.trans ht1 (fun x hx => .inl hx))
        have HB1 := hide hb1
        clear ht1 hb1
        go_wp2_with fail
        exact ⟨⟨k + 1, i, m, f', HS.out.left HM.out hlt HM0.out hml (by omega), rfl, rfl, HT1.out, HB1.out, by have := HFk.out; omega, by have := HK2.out; omega⟩, by have := HM0.out; simp [intOf]; omega⟩
    · have hee : i = j := by omega
      subst hee
      go_wp2_with fail
      go_ret
      have hKe : k = looksOf l t := by have := HK.out; rw [kOf_end] at this; omega
      exact ⟨i, by rw [← hKe]; exact HS.out, rfl, HT.out, by rw [← hKe]; exact HB.out⟩

/-- what Find answers. -/
def Finds (l : List En) (t : Int) (w : World) (e : Ending) (w' : World) : Prop :=
  e = .returned (.tuple #[.agg #[.int .i64 (findOf l t).1.1, .int .i64 (findOf l t).1.2], .int .i64 (looksOf l t), .bool (findOf l t).2]) ∧ Turn [] w w' ∧ (looksOf l t = 0 ∨ 2 ^ (looksOf l t - 1) ≤ l.length)
set_option maxHeartbeats 3200000 in
set_option maxRecDepth 100000 in
theorem find_at {w : World} {F : List Nat} {b : Nat} {l : List En} (h : Ix 45 w F b l) (hm : Mono l) (t : Int) :
    Calls Try.prog 15 #[.pointer (some ⟨b, 0, none⟩), .int .i64 t] w (Finds l t w) := by
  obtain ⟨A, c, hc0, hrd, hsz, hb, _⟩ := h.cell
  have HX := hide (fun wx (ht : Turn [] w wx) => h.turn0 ht)
  have HM := hide hm
  have HR := hide (fun wx (ht : Turn [] w wx) => hrd.turn0 ht)
  have HAl : Hid (∀ k ∈ blockOf A, k < w.heap.size) := hide (by
    obtain ⟨A', c', hF, hB, hO, _⟩ := h
    have := hB.cell 0
    rw [hc0] at this
    have this : Value.slice A l.length c = Value.slice A' l.length c' := by simpa using this
    injection this with h1 _ h2
    subst h1 h2
    exact fun k hk => (hO.lt k (mem_blockOf.2 hk)).2)
  clear h hm hrd
  go_enter Try.func15, Try.ntmps15
  go_wp2_with fail
  refine (list_cell _ b A l.length c (((Turn.cells0 (w := w) (by repeat first | exact Turn.refl _ _ | exact (show Hid (Turn [] _ _) by assumption).out | refine Turn.drew ?_ | refine Turn.drewN ?_ _ | refine Turn.alloc ?_ _)).1 b 0 hb).trans hc0)).mono ?_
  rintro e w1 ⟨rfl, rfl⟩
  go_wp2_with fail
  have HT4 : Hid (Turn [] w ((((w.alloc (.cells #[.int .i64 t] 2)).alloc (.cells #[.int .i64 0, .int .i64 0] 29)).alloc (.cells #[.int .i64 0] 3)).alloc (.cells #[.slice A l.length c] 22))) := hide (by repeat first | exact Turn.refl _ _ | exact (show Hid (Turn [] _ _) by assumption).out | refine Turn.drew ?_ | refine Turn.drewN ?_ _ | refine Turn.alloc ?_ _)
  have B3 : Hid (Blk ((((w.alloc (.cells #[.int .i64 t] 2)).alloc (.cells #[.int .i64 0, .int .i64 0] 29)).alloc (.cells #[.int .i64 0] 3)).alloc (.cells #[.slice A l.length c] 22)) w.heap.size 2 #[.int .i64 t]) := hide (by repeat first | ((refine Blk.new_at ?_ _ _); (simp; done)) | refine Blk.alloc ?_ _)
  have B29 : Hid (Blk ((((w.alloc (.cells #[.int .i64 t] 2)).alloc (.cells #[.int .i64 0, .int .i64 0] 29)).alloc (.cells #[.int .i64 0] 3)).alloc (.cells #[.slice A l.length c] 22)) (w.heap.size + 1) 29 #[.int .i64 0, .int .i64 0]) := hide (by repeat first | ((refine Blk.new_at ?_ _ _); (simp; done)) | refine Blk.alloc ?_ _)
  have B5 : Hid (Blk ((((w.alloc (.cells #[.int .i64 t] 2)).alloc (.cells #[.int .i64 0, .int .i64 0] 29)).alloc (.cells #[.int .i64 0] 3)).alloc (.cells #[.slice A l.length c] 22)) (w.heap.size + 1 + 1) 3 #[.int .i64 0]) := hide (by repeat first | ((refine Blk.new_at ?_ _ _); (simp; done)) | refine Blk.alloc ?_ _)
  have B7 : Hid (Blk ((((w.alloc (.cells #[.int .i64 t] 2)).alloc (.cells #[.int .i64 0, .int .i64 0] 29)).alloc (.cells #[.int .i64 0] 3)).alloc (.cells #[.slice A l.length c] 22)) (w.heap.size + 1 + 1 + 1) 22 #[.slice A l.length c]) := hide (by repeat first | ((refine Blk.new_at ?_ _ _); (simp; done)) | refine Blk.alloc ?_ _)
  generalize ((((w.alloc (.cells #[.int .i64 t] 2)).alloc (.cells #[.int .i64 0, .int .i64 0] 29)).alloc (.cells #[.int .i64 0] 3)).alloc (.cells #[.slice A l.length c] 22)) = W at *
  refine (search_any W (w.heap.size + 1 + 1) (w.heap.size + 1 + 1 + 1) w.heap.size c A l t HM.out B5.out (B7.out.cell 0) (B3.out.cell 0) (HR.out _ HT4.out) hsz B7.out.lt B3.out.lt (by omega) (by omega) (fun hm => by have := HAl.out _ hm; omega)).mono ?_
  rintro e w5 ⟨i, hs, rfl, ht5, hb5⟩
  have HS := hide hs
  have HB5 := hide hb5
  have B29' := hide (B29.out.turn ht5 (by simp))
  have HT5 := hide ((HT4.out.trans ht5 (G := [w.heap.size + 1 + 1]) (fun x hx => .inr (by simp at hx; omega))))
  have hil := hs.jn
  clear hs ht5 hb5 hc0 B3 B29 B5 B7
  go_wp2_with fail
  refine (entry_at (HX.out _ HT5.out) _).mono ?_
  rintro e w6 ⟨rfl, ht6⟩
  have hfo := HS.out.findOf
  rw [hfo]
  have HS2 := hide HS.out.was
  obtain ⟨⟨⟨p, q⟩, ok⟩, hfr⟩ : ∃ r, findOf l t = r := ⟨_, rfl⟩
  rw [hfr]
  have HFR := hide hfr
  have HT6 := hide (HT5.out.trans0 ht6)
  have C29 := hide (B29'.out.turn ht6 (by simp))
  have C5 := hide (HB5.out.turn ht6 (by simp))
  have hz9 := C29.out.lt
  have hz5 := C5.out.lt
  have hf9a := C29.out.frozen 0
  have hf9b := C29.out.frozen 1
  have hf5 := C5.out.frozen 0
  have hc9a := C29.out.cell 0
  have hc9b := C29.out.cell 1
  have hc5 := C5.out.cell 0
  clear ht6 hfo hfr HS HB5 B29'
  go_wp2_with fail
  have D29 : Hid (Blk ((w6.setCell ⟨w.heap.size + 1, 0, none⟩ (.int .i64 p)).setCell ⟨w.heap.size + 1, 1, none⟩ (.int .i64 q)) (w.heap.size + 1) 29 #[.int .i64 p, .int .i64 q]) := hide (by simpa using (C29.out.set_ 0 (.int .i64 p)).set_ 1 (.int .i64 q))
  have D5 : Hid (Blk ((w6.setCell ⟨w.heap.size + 1, 0, none⟩ (.int .i64 p)).setCell ⟨w.heap.size + 1, 1, none⟩ (.int .i64 q)) (w.heap.size + 1 + 1) 3 #[.int .i64 (looksOf l t)]) := hide ((C5.out.far (p := ⟨w.heap.size + 1, 0, none⟩) (by simp) _).far (p := ⟨w.heap.size + 1, 1, none⟩) (by simp) _)
  have HT7 : Hid (Turn [] w ((w6.setCell ⟨w.heap.size + 1, 0, none⟩ (.int .i64 p)).setCell ⟨w.heap.size + 1, 1, none⟩ (.int .i64 q))) := hide ((HT6.out.setCell (.inr (by simp)) _).setCell (.inr (by simp)) _)
  clear hz9 hz5 hf9a hf9b hf5 hc9a hc9b hc5 C29 C5
  generalize ((w6.setCell ⟨w.heap.size + 1, 0, none⟩ (.int .i64 p)).setCell ⟨w.heap.size + 1, 1, none⟩ (.int .i64 q)) = w7 at *
  have hz9 := D29.out.lt
  have hz5 := D5.out.lt
  have hf9a := D29.out.frozen 0
  have hf9b := D29.out.frozen 1
  have hf5 := D5.out.frozen 0
  have hc9a : w7.cell? ⟨w.heap.size + 1, 0, none⟩ = some (.int .i64 p) := D29.out.cell 0
  have hc9b : w7.cell? ⟨w.heap.size + 1, 1, none⟩ = some (.int .i64 q) := D29.out.cell 1
  have hc5 : w7.cell? ⟨w.heap.size + 1 + 1, 0, none⟩ = some (.int .i64 (looksOf l t)) := D5.out.cell 0
  go_region
  all_goals
    go_wp2_with fail
    refine bodyPost_ret (v := .tuple #[.agg #[.int .i64 p, .int .i64 q], .int .i64 (looksOf l t), .bool ok]) (by simp [results, Try.results15, go_sem, hc9a, hc9b, hc5, hz9, hz5, hf9a, hf9b, hf5]) rfl ⟨by rw [HFR.out], ?_, HS2.out⟩
    repeat first | exact HT7.out | refine Turn.drew ?_ | refine Turn.drewN ?_ _ | refine Turn.setCell ?_ (.inr (by simp <;> omega)) _
set_option maxHeartbeats 3200000 in
set_option maxRecDepth 100000 in
theorem find_nil (w : World) (t : Int) : Calls Try.prog 15 #[.pointer none, .int .i64 t] w fun e w' => e = .returned (.tuple #[.agg #[.int .i64 0, .int .i64 0], .int .i64 0, .bool false]) ∧ Turn [] w w' := by
  go_enter Try.func15, Try.ntmps15
  go_wp2_with fail
  refine (list_nil _).mono ?_
  rintro e w1 ⟨rfl, rfl⟩
  go_wp2_with fail
  have HT4 : Hid (Turn [] w ((((w.alloc (.cells #[.int .i64 t] 2)).alloc (.cells #[.int .i64 0, .int .i64 0] 29)).alloc (.cells #[.int .i64 0] 3)).alloc (.cells #[.slice none 0 0] 22))) := hide (by repeat first | exact Turn.refl _ _ | exact (show Hid (Turn [] _ _) by assumption).out | refine Turn.drew ?_ | refine Turn.drewN ?_ _ | refine Turn.alloc ?_ _)
  have B3 : Hid (Blk ((((w.alloc (.cells #[.int .i64 t] 2)).alloc (.cells #[.int .i64 0, .int .i64 0] 29)).alloc (.cells #[.int .i64 0] 3)).alloc (.cells #[.slice none 0 0] 22)) w.heap.size 2 #[.int .i64 t]) := hide (by repeat first | ((refine Blk.new_at ?_ _ _); (simp; done)) | refine Blk.alloc ?_ _)
  have B29 : Hid (Blk ((((w.alloc (.cells #[.int .i64 t] 2)).alloc (.cells #[.int .i64 0, .int .i64 0] 29)).alloc (.cells #[.int .i64 0] 3)).alloc (.cells #[.slice none 0 0] 22)) (w.heap.size + 1) 29 #[.int .i64 0, .int .i64 0]) := hide (by repeat first | ((refine Blk.new_at ?_ _ _); (simp; done)) | refine Blk.alloc ?_ _)
  have B5 : Hid (Blk ((((w.alloc (.cells #[.int .i64 t] 2)).alloc (.cells #[.int .i64 0, .int .i64 0] 29)).alloc (.cells #[.int .i64 0] 3)).alloc (.cells #[.slice none 0 0] 22)) (w.heap.size + 1 + 1) 3 #[.int .i64 0]) := hide (by repeat first | ((refine Blk.new_at ?_ _ _); (simp; done)) | refine Blk.alloc ?_ _)
  have B7 : Hid (Blk ((((w.alloc (.cells #[.int .i64 t] 2)).alloc (.cells #[.int .i64 0, .int .i64 0] 29)).alloc (.cells #[.int .i64 0] 3)).alloc (.cells #[.slice none 0 0] 22)) (w.heap.size + 1 + 1 + 1) 22 #[.slice none 0 0]) := hide (by repeat first | ((refine Blk.new_at ?_ _ _); (simp; done)) | refine Blk.alloc ?_ _)
  generalize ((((w.alloc (.cells #[.int .i64 t] 2)).alloc (.cells #[.int .i64 0, .int .i64 0] 29)).alloc (.cells #[.int .i64 0] 3)).alloc (.cells #[.slice none 0 0] 22)) = W at *
  refine (search_any W (w.heap.size + 1 + 1) (w.heap.size + 1 + 1 + 1) w.heap.size 0 none [] t mono_nil B5.out (B7.out.cell 0) (B3.out.cell 0) Reads.none_ (by simp) B7.out.lt B3.out.lt (by omega) (by omega) (by simp [blockOf])).mono ?_
  rintro e w5 ⟨i, hs, rfl, ht5, hb5⟩
  rw [show looksOf [] t = 0 from kOf_end _ _ _ _] at hb5
  have HB5 := hide hb5
  have B29' := hide (B29.out.turn ht5 (by simp))
  have HT5 := hide ((HT4.out.trans ht5 (G := [w.heap.size + 1 + 1]) (fun x hx => .inr (by simp at hx; omega))))
  have hil := hs.jn
  simp at hil
  subst hil
  clear hs ht5 hb5 B3 B29 B5 B7
  go_wp2_with fail
  refine (entry_nil _ _).mono ?_
  rintro e w6 ⟨rfl, ht6⟩
  have HT6 := hide (HT5.out.trans0 ht6)
  have C29 := hide (B29'.out.turn ht6 (by simp))
  have C5 := hide (HB5.out.turn ht6 (by simp))
  have hz9 := C29.out.lt
  have hz5 := C5.out.lt
  have hf9a := C29.out.frozen 0
  have hf9b := C29.out.frozen 1
  have hf5 := C5.out.frozen 0
  have hc9a := C29.out.cell 0
  have hc9b := C29.out.cell 1
  have hc5 := C5.out.cell 0
  clear ht6 HB5 B29'
  go_wp2_with fail
  have D29 : Hid (Blk ((w6.setCell ⟨w.heap.size + 1, 0, none⟩ (.int .i64 0)).setCell ⟨w.heap.size + 1, 1, none⟩ (.int .i64 0)) (w.heap.size + 1) 29 #[.int .i64 0, .int .i64 0]) := hide (by simpa using (C29.out.set_ 0 (.int .i64 0)).set_ 1 (.int .i64 0))
  have D5 : Hid (Blk ((w6.setCell ⟨w.heap.size + 1, 0, none⟩ (.int .i64 0)).setCell ⟨w.heap.size + 1, 1, none⟩ (.int .i64 0)) (w.heap.size + 1 + 1) 3 #[.int .i64 0]) := hide ((C5.out.far (p := ⟨w.heap.size + 1, 0, none⟩) (by simp) _).far (p := ⟨w.heap.size + 1, 1, none⟩) (by simp) _)
  have HT7 : Hid (Turn [] w ((w6.setCell ⟨w.heap.size + 1, 0, none⟩ (.int .i64 0)).setCell ⟨w.heap.size + 1, 1, none⟩ (.int .i64 0))) := hide ((HT6.out.setCell (.inr (by simp)) _).setCell (.inr (by simp)) _)
  clear hz9 hz5 hf9a hf9b hf5 hc9a hc9b hc5 C29 C5
  generalize ((w6.setCell ⟨w.heap.size + 1, 0, none⟩ (.int .i64 0)).setCell ⟨w.heap.size + 1, 1, none⟩ (.int .i64 0)) = w7 at *
  have hz9 := D29.out.lt
  have hz5 := D5.out.lt
  have hf9a := D29.out.frozen 0
  have hf9b := D29.out.frozen 1
  have hf5 := D5.out.frozen 0
  have hc9a : w7.cell? ⟨w.heap.size + 1, 0, none⟩ = some (.int .i64 0) := D29.out.cell 0
  have hc9b : w7.cell? ⟨w.heap.size + 1, 1, none⟩ = some (.int .i64 0) := D29.out.cell 1
  have hc5 : w7.cell? ⟨w.heap.size + 1 + 1, 0, none⟩ = some (.int .i64 0) := D5.out.cell 0
  go_region
  all_goals
    go_wp2_with fail
    refine bodyPost_ret (v := .tuple #[.agg #[.int .i64 0, .int .i64 0], .int .i64 0, .bool false]) (by simp [results, Try.results15, go_sem, hc9a, hc9b, hc5, hz9, hz5, hf9a, hf9b, hf5]) rfl ⟨rfl, ?_⟩
    repeat first | exact HT7.out | refine Turn.drew ?_ | refine Turn.drewN ?_ _ | refine Turn.setCell ?_ (.inr (by simp <;> omega)) _

theorem findOf_snoc (l : List En) (e : En) (t : Int) : findOf (l ++ [e]) t = if e.1 < t then (e, true) else findOf l t := by
  unfold findOf
  rw [List.reverse_append]
  simp only [List.reverse_cons, List.reverse_nil, List.nil_append, List.singleton_append, List.find?_cons]
  by_cases h : e.1 < t <;> simp [h]
set_option maxHeartbeats 1600000 in
set_option maxRecDepth 100000 in
theorem rfind {w : World} {F : List Nat} {b : Nat} {l : List En} (h : Ix 34 w F b l) (t : Int) :
    Calls Try.prog 29 #[.pointer (some ⟨b, 0, none⟩), .int .i64 t] w fun e w' => e = .returned (.tuple #[.agg #[.int .i64 (findOf l t).1.1, .int .i64 (findOf l t).1.2], .bool (findOf l t).2]) ∧ Turn [] w w' := by
  obtain ⟨A, c, hc0, hrd, hsz, hb, _⟩ := h.cell
  have HR := hide hrd
  clear h hrd
  go_enter Try.func29, Try.ntmps29
  go_wp2_with fail
  have B4 : Hid (Blk ((w.alloc (.cells #[.int .i64 0, .int .i64 0] 29)).alloc (.cells #[.int .i64 0, .int .i64 0] 29)) w.heap.size 29 #[.int .i64 0, .int .i64 0]) := hide (by repeat first | ((refine Blk.new_at ?_ _ _); (simp; done)) | refine Blk.alloc ?_ _)
  have B6 : Hid (Blk ((w.alloc (.cells #[.int .i64 0, .int .i64 0] 29)).alloc (.cells #[.int .i64 0, .int .i64 0] 29)) (w.heap.size + 1) 29 #[.int .i64 0, .int .i64 0]) := hide (by repeat first | ((refine Blk.new_at ?_ _ _); (simp; done)) | refine Blk.alloc ?_ _)
  have HT0 : Hid (Turn [] w ((w.alloc (.cells #[.int .i64 0, .int .i64 0] 29)).alloc (.cells #[.int .i64 0, .int .i64 0] 29))) := hide (by repeat first | exact Turn.refl _ _ | exact (show Hid (Turn [] _ _) by assumption).out | refine Turn.drew ?_ | refine Turn.drewN ?_ _ | refine Turn.alloc ?_ _)
  go_loopw [7, 8] (fun ok i wr => ∃ k : Nat, k ≤ l.length ∧ i = .int .i64 k ∧ ok = .bool (findOf (l.take k) t).2 ∧ Turn [] w wr ∧ Blk wr w.heap.size 29 #[.int .i64 0, .int .i64 0] ∧ Blk wr (w.heap.size + 1) 29 #[.int .i64 (findOf (l.take k) t).1.1, .int .i64 (findOf (l.take k) t).1.2]) (fun _ i _ => l.length - (intOf i).toNat)
  case atStart => exact ⟨0, Nat.zero_le _, rfl, rfl, HT0.out, B4.out, B6.out⟩
  case round =>
    clear HT0 B4 B6
    obtain ⟨k, hk, rfl, rfl, ht, hb4, hb6⟩ := hrel
    have HT := hide ht
    have HB4 := hide hb4
    have HB6 := hide hb6
    have hcb := (ht.cells0.1 b 0 hb).trans hc0
    have hbz : b < wr.heap.size := by have := ht.size; omega
    have hz6 := hb6.lt
    have hf6a := hb6.frozen 0
    have hf6b := hb6.frozen 1
    clear ht hb4 hb6
    by_cases hlt : k < l.length
    · obtain ⟨g, off, rfl, hg, hx, hy⟩ := reads_ent (HR.out.turn0 HT.out) hlt
      have hs := findOf_snoc (l.take k) l[k] t
      rw [← List.take_succ_eq_append_getElem hlt] at hs
      have HS := hide hs
      clear hs
      by_cases hle : l[k].1 < t
      · have HS2 := hide (by have := HS.out; rwa [if_pos hle] at this : findOf (l.take (k + 1)) t = (l[k], true))
        have h6a := HB6.out.cell 0
        have h6b := HB6.out.cell 1
        clear HS
        go_wp2_with fail
        refine ⟨⟨k + 1, by omega, by go_num, by rw [HS2.out], ?_, ?_, ?_⟩, by simp [intOf]; omega⟩
        · exact (HT.out.setCell (.inr (by simp)) _).setCell (.inr (by simp)) _
        · exact ((HB4.out.far (p := ⟨w.heap.size + 1, 0, none⟩) (by simp) _).far (p := ⟨w.heap.size + 1, 1, none⟩) (by simp) _)
        · rw [HS2.out]; simpa using (HB6.out.set_ 0 (.int .i64 l[k].1)).set_ 1 (.int .i64 l[k].2)
      · have HS2 := hide (by have := HS.out; rwa [if_neg hle] at this : findOf (l.take (k + 1)) t = findOf (l.take k) t)
        clear HS
        go_wp2_with fail
        exact ⟨⟨k + 1, by omega, by go_num, by rw [HS2.out], HT.out, HB4.out, by rw [HS2.out]; exact HB6.out⟩, by simp [intOf]; omega⟩
    · obtain rfl : k = l.length := by omega
      rw [List.take_length] at *
      obtain ⟨⟨⟨p, q⟩, ok⟩, hfr⟩ : ∃ r, findOf l t = r := ⟨_, rfl⟩
      rw [hfr] at HB6 ⊢
      have h6a : wr.cell? ⟨w.heap.size + 1, 0, none⟩ = some (.int .i64 p) := HB6.out.cell 0
      have h6b : wr.cell? ⟨w.heap.size + 1, 1, none⟩ = some (.int .i64 q) := HB6.out.cell 1
      have h4a := HB4.out.cell 0
      have h4b := HB4.out.cell 1
      have hz4 := HB4.out.lt
      have hf4a := HB4.out.frozen 0
      have hf4b := HB4.out.frozen 1
      have HFR := hide hfr
      clear hfr
      go_wp2_with fail
      refine bodyPost_ret (v := .tuple #[.agg #[.int .i64 p, .int .i64 q], .bool ok]) (by simp [results, Try.results29, go_sem, h4a, h4b, hz4, hf4a, hf4b]) rfl ⟨by rw [HFR.out], ?_⟩
      exact (HT.out.setCell (.inr (by simp)) _).setCell (.inr (by simp)) _
def LooksIs (n : Nat) (w : World) (e : Ending) (w' : World) : Prop := ∃ K : Int, e = .returned (.int .i64 K) ∧ Lks n K ∧ w = w'
set_option maxHeartbeats 400000 in
theorem rprobes (w : World) (n : Nat) (hn : n ≤ 9223372036854775807) : Calls Try.prog 30 #[.int .i64 n] w (LooksIs n w) := by
  by_cases h1 : n = 0
  · subst h1
    go_enter Try.func30, Try.ntmps30
    go_wp2_with fail
    go_ret
    exact ⟨0, rfl, .inl ⟨rfl, rfl⟩, rfl⟩
  · have h1' : ((n : Int) == 0) = false := by simpa using h1
    have h1'' : (n == 0) = false := by simpa using h1
    go_enter Try.func30, Try.ntmps30
    go_wp2_with fail
    go_loop [0, 3] (fun m k => ∃ s : Nat, s ≤ 64 ∧ m = .int .i64 ((n / 2 ^ s : Nat) : Int) ∧ k = .int .i64 (2 + s)) (fun m _ => (intOf m).toNat)
    case atStart => exact ⟨0, by omega, by simp, rfl⟩
    case round =>
      obtain ⟨s, hs, rfl, rfl⟩ := hrel
      by_cases hlt : 1 < n / 2 ^ s
      · have h64 := half_s hn hlt
        have hd : Hid (n / 2 ^ (s + 1) = n / 2 ^ s / 2) := hide (by rw [Nat.pow_succ, Nat.div_div_eq_div_mul])
        obtain ⟨m, hm⟩ : ∃ m, m = n / 2 ^ s := ⟨_, rfl⟩
        rw [← hm] at hlt hd ⊢
        have hmn : m ≤ n := by rw [hm]; exact Nat.div_le_self _ _
        clear hm
        go_wp2_with fail
        refine ⟨⟨s + 1, by omega, ?_, by go_num⟩, by simp [intOf] <;> omega⟩
        rw [hd.out]
        go_num
      · have HS : Hid (n / 2 ^ s ≤ 1) := hide (by omega)
        obtain ⟨m, hm⟩ : ∃ m, m = n / 2 ^ s := ⟨_, rfl⟩
        rw [← hm] at hlt ⊢
        clear hm
        go_wp2_with fail
        go_ret
        exact ⟨_, rfl, .inr ⟨s, by omega, HS.out, hs, rfl⟩, rfl⟩
end Go.Proofs.Ytlnjemdnmndnfaa

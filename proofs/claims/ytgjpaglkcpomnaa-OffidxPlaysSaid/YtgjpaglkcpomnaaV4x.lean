/- The document's own index, walked: Cut, Looks, Find; the program's Find over an index of no order is the document's. -/
import Derived.Test.YtgjpaglkcpomnaaV1x
import Derived.Test.YtgjpaglkcpomnaaW6x
namespace Go.Proofs.Ytgjpaglkcpomnaa
set_option linter.unusedVariables false
set_option linter.unusedSimpArgs false
open Go.RowKit K

def RCuts (E : Int) (L : List En) (F : List Nat) (b : Nat) (w : World) (e : Ending) (w' : World) : Prop := ∃ F', e = .returned (.int .i64 E) ∧ Turn F w w' ∧ RIdx w' F' b L ∧ ∀ k ∈ F', k ∈ F
set_option maxHeartbeats 1600000 in
theorem rcut {w : World} {F : List Nat} {b : Nat} {l : List En} (h : RIdx w F b l) (n : Int) : Calls Try.prog 42 #[.pointer (some ⟨b, 0, none⟩), .int .i64 n] w (RCuts (cutE l n) (cutL l n) F b w) := by
  by_cases hin : 0 ≤ n ∧ n ≤ l.length
  · have he : cutE l n = 0 ∧ cutL l n = l.take n.toNat := by unfold cutE cutL; rw [if_pos hin, if_pos hin]; exact ⟨rfl, rfl⟩
    rw [he.1, he.2]
    obtain ⟨k, rfl⟩ := Int.eq_ofNat_of_zero_le hin.1
    have hk : k ≤ l.length := by omega
    rw [show (k : Int).toNat = k from rfl]
    have hd1 : ¬ (k : Int) < 0 := by omega
    have hd2 : ¬ (l.length : Int) < (k : Int) := by omega
    obtain ⟨A, c, hF, hB, hO, hsz⟩ := h
    have hcap := own_cap hO
    have hc0 := hB.cell 0
    have hf0 := hB.frozen 0
    have hbl := hB.lt
    have hkc : (k : Int) ≤ (c : Int) := by omega
    have hne : (Value.slice A l.length c).ownBlock ≠ some b := own_blk_ne hO hB (by decide)
    have HB := hide hB
    have HO := hide (own_cut hO hk)
    have HF := hide hF
    have HN := hide hne
    clear hB hO hF hne he hin
    go_enter Try.func42, Try.ntmps42
    go_wp2_with fail
    go_ret
    have hlen : (l.take k).length = k := by rw [List.length_take]; omega
    refine ⟨F, rfl, ?_, ⟨A, c, HF.out, ?_, ?_, by omega⟩, fun x hx => hx⟩
    · exact (Turn.refl _ _).setCell (.inl (by rw [HF.out]; simp)) _
    · rw [hlen]; simpa using HB.out.set_ 0 (.slice A k c)
    · rw [hlen, ← ents_take]
      exact own_turn HO.out (turn_set w b 0 _) (fun g hg => by
        have hne := HN.out
        rw [ownBlock_slice] at hg hne
        rw [hg] at hne
        simpa using hne)
  · have he : cutE l n = 1 ∧ cutL l n = l := by unfold cutE cutL; rw [if_neg hin, if_neg hin]; exact ⟨rfl, rfl⟩
    rw [he.1, he.2]
    have HX := hide h
    obtain ⟨A, c, hc0, _, _, hbw⟩ := h.cell
    clear h
    rcases (show n < 0 ∨ (0 ≤ n ∧ (l.length : Int) < n) by omega) with h0 | ⟨h0, h1⟩
    all_goals
      clear hin he
      go_enter Try.func42, Try.ntmps42
      go_wp2_with fail
      go_ret
      exact ⟨F, rfl, Turn.refl _ _, HX.out, fun k hk => hk⟩

/-- the last entry whose key is not above key. -/
def findOf (l : List En) (key : Int) : En × Bool := match l.reverse.find? (fun e => decide (e.1 ≤ key)) with | some e => (e, true) | none => ((0, 0), false)
theorem findOf_none {l : List En} {key : Int} (h : ∀ m (hm : m < l.length), key < l[m].1) : findOf l key = ((0, 0), false) := by
  unfold findOf
  rw [List.find?_eq_none.2]
  intro e he
  obtain ⟨m, hm, rfl⟩ := List.mem_iff_getElem.1 (List.mem_reverse.1 he)
  have := h m hm
  simp
  omega
theorem findOf_some {l : List En} {key : Int} {m : Nat} (hm : m < l.length) (h : l[m].1 ≤ key) (hl : ∀ m' (h : m' < l.length), m < m' → key < l[m'].1) : findOf l key = (l[m], true) := by
  have e : l = l.take m ++ l[m] :: l.drop (m + 1) := by rw [← List.drop_eq_getElem_cons hm, List.take_append_drop]
  have h2 : l.reverse = (l.drop (m + 1)).reverse ++ l[m] :: (l.take m).reverse := by
    conv => lhs; rw [e]
    simp
  unfold findOf
  rw [h2, List.find?_append, List.find?_eq_none.2]
  · simp [h]
  · intro x hx
    obtain ⟨i, hi, rfl⟩ := List.mem_iff_getElem.1 (List.mem_reverse.1 hx)
    have hi' : m + 1 + i < l.length := by simp at hi; omega
    have := hl (m + 1 + i) hi' (by omega)
    simp
    omega
def Finds (l : List En) (key : Int) (w : World) (e : Ending) (w' : World) : Prop :=
  ∃ k : Nat, (k = 0 ∨ 2 ^ (k - 1) ≤ l.length) ∧ (l.length = 0 ↔ k = 0) ∧ Turn [] w w' ∧ e = .returned (.tuple #[.agg #[.int .i64 (findOf l key).1.1, .int .i64 (findOf l key).1.2], .bool (findOf l key).2, .int .i64 k])
theorem finds_at {w : World} {F : List Nat} {b : Nat} {l : List En} (h : Idx w F b l) (hr : Rise l) (key : Int) :
    Calls Try.prog 13 #[.pointer (some ⟨b, 0, none⟩), .int .i64 key] w (Finds l key w) := by
  refine (look_at h hr key).mono ?_
  rintro e w' ⟨k, h1, h2, h3, ⟨m, hm, h4, h5, rfl⟩ | ⟨h4, rfl⟩⟩
  · exact ⟨k, h1, h2, h3, by rw [findOf_some hm h4 h5]⟩
  · exact ⟨k, h1, h2, h3, by rw [findOf_none h4]⟩
set_option maxHeartbeats 1600000 in
set_option maxRecDepth 100000 in
theorem find_nil (w : World) (key : Int) : Calls Try.prog 13 #[.pointer none, .int .i64 key] w fun e w' => e = .returned (.tuple #[.agg #[.int .i64 0, .int .i64 0], .bool false, .int .i64 0]) ∧ Turn [] w w' := by
  go_enter Try.func13, Try.ntmps13
  go_wp2_with (go_at_call 12; refine (len_nil _).mono ?_; rintro e w' ⟨rfl, rfl⟩)
  go_loop [7, 8, 9] (fun t lo hi => t = .int .i64 0 ∧ lo = .int .i64 0 ∧ hi = .int .i64 0) (fun _ lo hi => 0)
  case atStart => exact ⟨rfl, rfl, rfl⟩
  case round =>
    obtain ⟨rfl, rfl, rfl⟩ := hrel
    go_wp2_with (go_at_call 34; refine (entry_nil _ _).mono ?_; rintro e w1 ⟨rfl, ht⟩; obtain ⟨hc, hf, hz⟩ := box_kept ht)
    refine bodyPost_ret (v := .tuple #[.agg #[.int .i64 0, .int .i64 0], .bool false, .int .i64 0]) (by simp [results, Try.results13, go_sem, hc, hf, hz]) rfl ⟨rfl, ?_⟩
    repeat first | exact turn_box ht | refine Turn.alloc ?_ _ | refine Turn.setCell ?_ (.inr (by first | exact Nat.le_refl _ | (simp; done) | omega)) _

def RFinds (l : List En) (key : Int) (w : World) (e : Ending) (w' : World) : Prop := e = .returned (.tuple #[.agg #[.int .i64 (findOf l key).1.1, .int .i64 (findOf l key).1.2], .bool (findOf l key).2]) ∧ Turn [] w w'
set_option maxHeartbeats 1600000 in
set_option maxRecDepth 100000 in
theorem rfind {w : World} {F : List Nat} {b : Nat} {l : List En} (h : RIdx w F b l) (key : Int) :
    Calls Try.prog 40 #[.pointer (some ⟨b, 0, none⟩), .int .i64 key] w (RFinds l key w) := by
  obtain ⟨A, c, hc0, hrd, hm, hb⟩ := h.cell
  have HR := hide hrd
  clear h hrd
  have hlen : l.length ≤ 9223372036854775807 := by omega
  go_enter Try.func40, Try.ntmps40
  go_wp2_with fail
  go_loop [6] (fun i => ∃ k : Nat, k ≤ l.length ∧ i = .int .i64 ((k : Int) - 1) ∧ ∀ m (hm : m < l.length), k ≤ m → key < l[m].1) (fun i => (intOf i + 1).toNat)
  case atStart => exact ⟨l.length, Nat.le_refl _, by go_num, fun m h1 h2 => by omega⟩
  case round =>
    obtain ⟨k, hk, rfl, hall⟩ := hrel
    have HA := hide hall
    clear hall
    rcases Nat.eq_zero_or_pos k with rfl | hpos
    · go_wp2_with fail
      have hF := findOf_none (l := l) (key := key) (fun m hm => HA.out m hm (Nat.zero_le _))
      refine bodyPost_ret (v := .tuple #[.agg #[.int .i64 0, .int .i64 0], .bool false]) (by simp [results, Try.results40, go_sem]) rfl ⟨by rw [hF], ?_⟩
      repeat first | exact Turn.refl _ _ | refine Turn.alloc ?_ _ | refine Turn.setCell ?_ (.inr (by first | exact Nat.le_refl _ | (simp; done) | omega)) _
    · obtain ⟨m, rfl⟩ : ∃ m, k = m + 1 := ⟨k - 1, by omega⟩
      have hml : m < l.length := by omega
      rw [show (((m + 1 : Nat) : Int) - 1) = (m : Int) by omega]
      obtain ⟨g, off, rfl, hg, hx, hy⟩ := reads_ent HR.out hml
      by_cases hle : l[m].1 ≤ key
      · have hF := hide (findOf_some hml hle (fun m' h1 h2 => HA.out m' h1 (by omega)))
        go_wp2_with fail
        refine bodyPost_ret (v := .tuple #[.agg #[.int .i64 l[m].1, .int .i64 l[m].2], .bool true]) (by simp [results, Try.results40, go_sem]) rfl ⟨by rw [hF.out], ?_⟩
        repeat first | exact Turn.refl _ _ | refine Turn.alloc ?_ _ | refine Turn.setCell ?_ (.inr (by first | exact Nat.le_refl _ | (simp; done) | omega)) _
      · go_wp2_with fail
        refine ⟨⟨m, by omega, rfl, fun m' h1 h2 => ?_⟩, by simp [intOf]⟩
        rcases Nat.eq_or_lt_of_le h2 with rfl | h3
        · omega
        · exact HA.out m' h1 h3
/-- how many looks the document allows. -/
def Lks (n : Nat) (K : Int) : Prop := (n = 0 ∧ K = 0) ∨ ∃ s : Nat, 1 ≤ n ∧ n / 2 ^ s ≤ 1 ∧ s ≤ 64 ∧ K = 2 + s
def LooksIs (n : Nat) (w : World) (e : Ending) (w' : World) : Prop := ∃ K : Int, e = .returned (.int .i64 K) ∧ Lks n K ∧ w = w'
set_option maxHeartbeats 400000 in
theorem rlooks (w : World) (n : Nat) (hn : n ≤ 9223372036854775807) : Calls Try.prog 41 #[.int .i64 n] w (LooksIs n w) := by
  by_cases h1 : n < 1
  · obtain rfl : n = 0 := by omega
    go_enter Try.func41, Try.ntmps41
    go_wp2_with fail
    go_ret
    exact ⟨0, rfl, .inl ⟨rfl, rfl⟩, rfl⟩
  · go_enter Try.func41, Try.ntmps41
    go_wp2_with fail
    go_loop [0, 3] (fun m k => ∃ s : Nat, s ≤ 64 ∧ m = .int .i64 ((n / 2 ^ s : Nat) : Int) ∧ k = .int .i64 (2 + s)) (fun m _ => (intOf m).toNat)
    case atStart => exact ⟨0, by omega, by simp, rfl⟩
    case round =>
      obtain ⟨s, hs, rfl, rfl⟩ := hrel
      by_cases hlt : 1 < n / 2 ^ s
      · have h64 := half_s hn hlt
        have hd : Hid (n / 2 ^ (s + 1) = n / 2 ^ s / 2) := hide (by rw [Nat.pow_succ, Nat.div_div_eq_div_mul])
        obtain ⟨m, hm⟩ : ∃ m, m = n / 2 ^ s := ⟨_, rfl⟩
        rw [← hm] at hlt hd ⊢
        have hmn : m ≤ n := by rw [hm]; exact Nat.div_le_self _ _
        clear hm
        go_wp2_with fail
        refine ⟨⟨s + 1, by omega, ?_, by go_num⟩, by first | (simp [intOf]; done) | (simp [intOf]; omega)⟩
        rw [hd.out]
        go_num
      · have HS : Hid (n / 2 ^ s ≤ 1) := hide (by omega)
        obtain ⟨m, hm⟩ : ∃ m, m = n / 2 ^ s := ⟨_, rfl⟩
        rw [← hm] at hlt ⊢
        clear hm
        go_wp2_with fail
        go_ret
        exact ⟨_, rfl, .inr ⟨s, by omega, HS.out, hs, rfl⟩, rfl⟩
theorem looks_enough {n k : Nat} {K : Int} (h : k = 0 ∨ 2 ^ (k - 1) ≤ n) (h0 : n = 0 ↔ k = 0) (hK : Lks n K) : (k : Int) ≤ K := by
  rcases hK with ⟨hn, rfl⟩ | ⟨s, hn, hs, _, rfl⟩
  · have := h0.1 hn; omega
  · have := most_enough hs h; omega
end Go.Proofs.Ytgjpaglkcpomnaa

/- OffidxFinds, walked. -/
import Derived.Test.YtgjpaglkcpomnaaW5x
namespace Go.Proofs.Ytgjpaglkcpomnaa
set_option linter.unusedVariables false
set_option linter.unusedSimpArgs false
open Go.RowKit K

theorem rise_addL {l : List En} (h : Rise l) (e : En) : Rise (addL l e) := by
  obtain ⟨k, a⟩ := e
  by_cases hf : fits l (k, a) = true
  · rw [(yes_EL hf).2]
    intro i j hj hi
    simp at hj
    by_cases hjl : j < l.length
    · have := h i j hjl hi
      rw [List.getElem_append_left (by omega), List.getElem_append_left hjl]
      exact this
    · have : j = l.length := by omega
      subst this
      have h1 := lastOf_pos (l := l) (by omega)
      have h2 := (fits_iff (l := l) (k := k) (a := a) h1).1 hf
      rw [List.getElem_append_left (by omega)]
      simp
      have h3 : l[l.length - 1].1 < k := by simpa using h2.2.2.elim (by simp) (fun h => h.1)
      rcases Nat.lt_or_ge i (l.length - 1) with h4 | h4
      · have := h i (l.length - 1) (by omega) h4; omega
      · have : i = l.length - 1 := by omega
        subst this; exact h3
  · rw [(no_EL hf).2]; exact h
theorem rise_nil : Rise [] := fun i j hj => by simp at hj
theorem rise_built (L : List En) : Rise (builtL L) := by
  have h : ∀ (L l : List En), Rise l → Rise (L.foldl addL l) := by
    intro L
    induction L with
    | nil => intro l h; exact h
    | cons e L ih => intro l h; exact ih _ (rise_addL h e)
  exact h L [] rise_nil

theorem pow_grow (n : Nat) : n < 2 ^ n := Nat.lt_two_pow_self
theorem most_enough {n s k : Nat} (hn : n / 2 ^ s ≤ 1) (hk : k = 0 ∨ 2 ^ (k - 1) ≤ n) : k ≤ 2 + s := by
  rcases hk with h | h
  · omega
  · have h1 : n < 2 ^ (s + 1) := by
      have h2 : n < 2 ^ s * (1 + 1) := by
        rcases Nat.lt_or_ge n (2 ^ s * (1 + 1)) with h3 | h3
        · exact h3
        · have := (Nat.le_div_iff_mul_le (Nat.two_pow_pos s)).2 (by rw [Nat.mul_comm]; exact h3)
          omega
      rw [Nat.pow_succ]; omega
    have h4 : k - 1 < s + 1 := (Nat.pow_lt_pow_iff_right (by omega)).1 (Nat.lt_of_le_of_lt h h1)
    omega
theorem half_s {n s : Nat} (hn : n ≤ 9223372036854775807) (h : 1 < n / 2 ^ s) : s < 64 := by
  rcases Nat.lt_or_ge s 64 with h1 | h1
  · exact h1
  · have h2 := Nat.pow_le_pow_right (n := 2) (by omega) h1
    have h3 : n / 2 ^ s = 0 := Nat.div_eq_of_lt (by omega)
    omega

def intsV (l : List Int) : List Value := l.map (Value.int .i64)

def Looked (l : List En) (key : Int) (w : World) (e : Ending) (w' : World) : Prop :=
  ∃ k : Nat, (k = 0 ∨ 2 ^ (k - 1) ≤ l.length) ∧ (l.length = 0 ↔ k = 0) ∧ Turn [] w w' ∧
    ((∃ (m : Nat) (hm : m < l.length), l[m].1 ≤ key ∧ (∀ m' (h : m' < l.length), m < m' → key < l[m'].1) ∧ e = .returned (.tuple #[.agg #[.int .i64 l[m].1, .int .i64 l[m].2], .bool true, .int .i64 k])) ∨
     ((∀ m' (h : m' < l.length), key < l[m'].1) ∧ e = .returned (.tuple #[.agg #[.int .i64 0, .int .i64 0], .bool false, .int .i64 k])))
theorem look_at {w : World} {F : List Nat} {b : Nat} {l : List En} (h : Idx w F b l) (hr : Rise l) (key : Int) :
    Calls Try.prog 13 #[.pointer (some ⟨b, 0, none⟩), .int .i64 key] w (Looked l key w) := by
  refine (find_at h hr key).mono ?_
  rintro e w' ⟨i, k, hs, rfl, ht⟩
  refine ⟨k, hs.was, ⟨fun hl => ?_, fun hk => ?_⟩, ht, ?_⟩
  · rcases hs.was with h | h
    · exact h
    · have := Nat.two_pow_pos (k - 1); omega
  · have h1 := hs.some_ hk
    omega
  · rcases Nat.eq_zero_or_pos i with h0 | h0
    · subst h0
      refine .inr ⟨fun m' hm' => hs.hi m' hm' (by omega), ?_⟩
      rw [entryOf_out (by omega)]
    · obtain ⟨m, rfl⟩ : ∃ m, i = m + 1 := ⟨i - 1, by omega⟩
      have hm : m < l.length := by have := hs.jn; omega
      refine .inl ⟨m, hm, hs.lo m hm (by omega), fun m' h1 h2 => hs.hi m' h1 (by omega), ?_⟩
      rw [show (((m + 1 : Nat) : Int) - 1) = (m : Int) by omega, entryOf_in hm]
theorem reads_int {w : World} {A : Option Addr} {l : List Int} (h : Reads w 1 A l.length (intsV l)) {k : Nat} (hk : k < l.length) :
    ∃ g off, A = some ⟨g, off, none⟩ ∧ g < w.heap.size ∧ w.cell? ⟨g, off + k, none⟩ = some (.int .i64 l[k]) := by
  obtain ⟨g, off, hA, hg, hc⟩ := h.2 (by omega)
  exact ⟨g, off, hA, hg, hc k _ (by simp [intsV, hk])⟩

set_option maxHeartbeats 4000000 in
set_option maxRecDepth 1000000 in
theorem finds_any (w : World) (A A' : Option Addr) (c c' : Nat) (L : List En) (Ks : List Int) (hr : Reads w 2 A L.length (ents L)) (hsz : L.length * 16 ≤ 140737488351232)
    (hr' : Reads w 1 A' Ks.length (intsV Ks)) (hsz' : Ks.length * 8 ≤ 140737488351232) :
    Calls Try.prog 4 #[.slice A L.length c, .slice A' Ks.length c'] w (Same (.bool true) w) := by
  have HR := hide hr
  have HR' := hide hr'
  clear hr hr'
  go_enter Try.func4, Try.ntmps4
  go_wp2_with fail
  refine (fixed_any _).mono ?_
  rintro e w1 ⟨rfl, ht1⟩
  have HB := hide (built_any w1 A c L (HR.out.turn0 ht1) hsz)
  go_wp2_with fail
  refine HB.out.mono ?_
  rintro e w2 ⟨b, A6, c6, F, rfl, hB⟩
  clear HB
  have hlen := builtL_length L
  have HRs := hide (rise_built L)
  obtain ⟨l, hl⟩ : ∃ l, l = builtL L := ⟨_, rfl⟩
  rw [← hl] at hB hlen HRs ⊢
  clear hl
  have HI := hide (fun wx (ht : Turn [] w2 wx) => hB.idx.turn0 ht)
  have HO := hide (fun wx (ht : Turn [] w2 wx) => (Reads.of_own hB.own).turn0 ht)
  have HT := hide (ht1.trans0 hB.turn)
  clear hB ht1
  go_wp2_with (go_at_call 12; refine (len_at (HI.out _ (Turn.refl _ _))).mono ?_; rintro e w' ⟨rfl, rfl⟩)
  go_loop [8, 9] (fun t i => ∃ s : Nat, t = .int .i64 ((2 + s : Nat) : Int) ∧ i = .int .i64 ((l.length / 2 ^ s : Nat) : Int)) (fun _ i => (intOf i).toNat)
  case atStart => exact ⟨0, rfl, by simp⟩
  case round =>
    obtain ⟨s, rfl, rfl⟩ := hrel
    by_cases h1 : 1 < l.length / 2 ^ s
    · have hs := half_s (n := l.length) (by omega) h1
      have hdd : l.length / 2 ^ s / 2 = l.length / 2 ^ (s + 1) := by rw [Nat.div_div_eq_div_mul, Nat.pow_succ]
      have HD := hide hdd
      clear hdd
      obtain ⟨d, hd⟩ : ∃ d, d = l.length / 2 ^ s := ⟨_, rfl⟩
      rw [← hd] at h1 HD ⊢
      have hdm : d ≤ 9223372036854775807 := by have := Nat.div_le_self l.length (2 ^ s); omega
      clear hd
      go_wp2
      go_round
      case rel => exact ⟨s + 1, by go_num, by rw [← HD.out]; go_num⟩
      case measure => simp [intOf]; omega
    · have HM : Hid (∀ k, (k = 0 ∨ 2 ^ (k - 1) ≤ l.length) → k ≤ 2 + s) := hide (fun k hk => most_enough (by omega) hk)
      obtain ⟨M, hM⟩ : ∃ M, M = 2 + s := ⟨_, rfl⟩
      obtain ⟨N, hN⟩ : ∃ N, N = l.length / 2 ^ s := ⟨_, rfl⟩
      rw [← hM, ← hN]
      rw [← hM] at HM
      rw [← hN] at h1
      clear hM hN
      go_wp2_with fail
      go_loopw [10] (fun i wr => ∃ k : Nat, k ≤ Ks.length ∧ i = .int .i64 k ∧ Turn [] w2 wr) (fun i _ => Ks.length - (intOf i).toNat)
      case atStart => exact ⟨0, Nat.zero_le _, rfl, Turn.refl _ _⟩
      case round =>
        obtain ⟨k, hk, rfl, htr⟩ := hrel
        by_cases hlt : k < Ks.length
        · obtain ⟨g, off, rfl, hg, hx⟩ := reads_int (HR'.out.turn0 (HT.out.trans0 htr)) hlt
          obtain ⟨key, hkey⟩ : ∃ key, key = Ks[k] := ⟨_, rfl⟩
          rw [← hkey] at hx
          have HKey := hide hkey
          clear hkey
          have HTr := hide htr
          have HIr := hide (HI.out _ htr)
          clear htr
          go_wp2_with fail
          refine (look_at HIr.out HRs.out key).mono ?_
          rintro e w3 ⟨q, hq, hq0, ht3, hcase⟩
          have hqM := HM.out q hq
          have HT3 := hide (HTr.out.trans0 ht3)
          have hrd := (HO.out _ HT3.out)
          obtain ⟨g', off', hA', hg3, hx3⟩ := reads_int (HR'.out.turn0 (HT.out.trans0 HT3.out)) hlt
          injection hA' with hA'
          injection hA' with hA1 hA2
          subst hA1 hA2
          rw [← HKey.out] at hx3
          clear hx hg hq ht3
          rcases hcase with ⟨m, hm, hle, hgt, rfl⟩ | ⟨hgt, rfl⟩
          · have hq1 : 0 < q := by
              rcases Nat.eq_zero_or_pos q with h | h
              · have := hq0.2 h; omega
              · exact h
            have h00 : ((l.length : Int) == 0) = false := by rw [beq_eq_false_iff_ne]; omega
            have hd1 : decide ((q : Int) < 1) = false := by simp; omega
            have hd2 : decide (M < q) = false := by simp; omega
            have HG := hide hgt
            have Hrd := hide hrd
            obtain ⟨ex, hex⟩ : ∃ ex, ex = l[m].1 := ⟨_, rfl⟩
            obtain ⟨ey, hey⟩ : ∃ ey, ey = l[m].2 := ⟨_, rfl⟩
            rw [← hex, ← hey]
            rw [← hex] at hle
            have HEX := hide hex
            have HEY := hide hey
            clear hq0 hgt hrd hex hey
            go_wp2_with fail
            go_quiet (fail)
            go_wp2_with fail
            go_loopw [14] (fun i wr => ∃ j : Nat, j ≤ m ∧ i = .int .i64 j ∧ Turn [] (w3.alloc (.cells #[.int .i64 ex, .int .i64 ey] 30)) wr) (fun i _ => l.length - (intOf i).toNat)
            case atStart => exact ⟨0, Nat.zero_le _, rfl, (Turn.refl _ _).drewN _⟩
            case round =>
              obtain ⟨j, hj, rfl, htj⟩ := hrel
              have hjl : j < l.length := by omega
              have htj3 := turn_box htj
              obtain ⟨g6, off6, rfl, hg6, hx6, hy6⟩ := reads_ent (Hrd.out.turn0 htj3) hjl
              obtain ⟨hcb, hfb, hzb⟩ := box_kept htj
              have HTJ := hide htj
              clear htj htj3
              rcases Nat.lt_or_ge j m with hjm | hjm
              · have hlt := HRs.out j m hm hjm
                rw [← HEX.out] at hlt
                go_wp2_with fail
                go_quiet (fail)
                go_wp2_with fail
                go_roundw
                case rel => exact ⟨j + 1, by omega, by go_num, HTJ.out.drewN _⟩
                case measure => simp [intOf]; omega
              · obtain rfl : j = m := by omega
                rw [← HEX.out] at hx6
                rw [← HEY.out] at hy6
                have hx4 := ((turn_box HTJ.out).cell (p := ⟨g, off + k, none⟩) hg3 (by simp)).trans hx3
                have hg4 : g < wr.heap.size := Nat.lt_of_lt_of_le hg3 (turn_box HTJ.out).size
                go_wp2_with fail
                go_quiet (fail)
                go_wp2_with fail
                have HTQ := hide (HTJ.out.drewN nq)
                clear hcb hfb hzb hx4 hg4 hx6 hy6 hg6 HTJ
                generalize wr.drewN nq = wq at *
                obtain ⟨hcb, hfb, hzb⟩ := box_kept HTQ.out
                have hx4 := ((turn_box HTQ.out).cell (p := ⟨g, off + k, none⟩) hg3 (by simp)).trans hx3
                have hg4 : g < wq.heap.size := Nat.lt_of_lt_of_le hg3 (turn_box HTQ.out).size
                have he1 : ((j : Int) == (l.length : Int)) = false := by rw [beq_eq_false_iff_ne]; omega
                have he2 : decide (key < ex) = false := by simp; omega
                have hw1 : IntKind.i64.wrap ((j : Int) + 1) = (j : Int) + 1 := by rw [IntKind.wrap_i64]; omega
                have hw2 : (0 : Int) ≤ (j : Int) + 1 := by omega
                have hw3 : ((j : Int) + 1).toNat = j + 1 := by omega
                rcases Nat.lt_or_ge (j + 1) l.length with hj1 | hj1
                · have hj2 : (j : Int) + 1 < (l.length : Int) := by omega
                  have hnext := HG.out (j + 1) hj1 (by omega)
                  obtain ⟨g7, off7, hA7, hg7, hx7, hy7⟩ := reads_ent (Hrd.out.turn0 (turn_box HTQ.out)) hj1
                  injection hA7 with hA7
                  injection hA7 with hA7 hA8
                  subst hA7 hA8
                  have he3 : decide (l[j + 1].1 ≤ key) = false := by simp; omega
                  go_quiet (fail)
                  go_wp2_with fail
                  go_roundw
                  case rel => exact ⟨k + 1, by omega, by go_num, HT3.out.trans0 (turn_box (HTQ.out.drewN _))⟩
                  case measure => simp [intOf]; omega
                · have he4 : decide (((j + 1 : Nat) : Int) < (l.length : Int)) = false := by simp; omega
                  have he5 : decide ((j : Int) + 1 < (l.length : Int)) = false := by simp; omega
                  go_quiet (fail)
                  go_wp2_with fail
                  go_roundw
                  case rel => exact ⟨k + 1, by omega, by go_num, HT3.out.trans0 (turn_box (HTQ.out.drewN _))⟩
                  case measure => simp [intOf]; omega
          · rcases Nat.eq_zero_or_pos l.length with h0 | h0
            · obtain rfl : q = 0 := hq0.1 h0
              have h00 : ((l.length : Int) == 0) = true := by rw [h0]; rfl
              clear h0 hq0 hgt
              go_wp2_with fail
              go_roundw
              case rel => exact ⟨k + 1, by omega, by go_num, HT3.out.alloc _⟩
              case measure => simp [intOf]; omega
            · have hq1 : 0 < q := by
                rcases Nat.eq_zero_or_pos q with h | h
                · have := hq0.2 h; omega
                · exact h
              obtain ⟨g6, off6, rfl, hg6, hx6, hy6⟩ := reads_ent hrd h0
              have h00 : ((l.length : Int) == 0) = false := by rw [beq_eq_false_iff_ne]; omega
              have hk0 := hgt 0 h0
              have hx60 : w3.cell? ⟨g6, off6, none⟩ = some (.int .i64 l[0].1) := by simpa using hx6
              have hd1 : decide ((q : Int) < 1) = false := by simp; omega
              have hd2 : decide (M < q) = false := by simp; omega
              have hd3 : decide (l[0].1 ≤ key) = false := by simp; omega
              have hlpos : (0 : Int) < (l.length : Int) := by omega
              clear hq0 hgt hrd hx6
              go_wp2_with fail
              go_quiet (fail)
              go_wp2_with fail
              go_roundw
              case rel => exact ⟨k + 1, by omega, by go_num, (HT3.out.alloc _).drewN _⟩
              case measure => simp [intOf]; omega
        · go_wp2
          go_ret
          exact ⟨rfl, HT.out.trans0 htr⟩
end Go.Proofs.Ytgjpaglkcpomnaa

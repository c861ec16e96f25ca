/- OffidxPlays, walked. -/
import Derived.Test.YtgjpaglkcpomnaaV7x
namespace Go.Proofs.Ytgjpaglkcpomnaa
set_option linter.unusedVariables false
set_option linter.unusedSimpArgs false
open Go.RowKit K

/-- a call: its kind, its entry, its number. -/
abbrev Op4 := (Int × Int) × (Int × Int)
def opsV (l : List Op4) : List Value := l.flatMap fun o => [.int .i64 o.1.1, .int .i64 o.1.2, .int .i64 o.2.1, .int .i64 o.2.2]
theorem opsV_at (l : List Op4) (k : Nat) (e : Op4) (h : l[k]? = some e) : (opsV l)[k * 4]? = some (.int .i64 e.1.1) ∧ (opsV l)[k * 4 + 1]? = some (.int .i64 e.1.2) ∧ (opsV l)[k * 4 + 2]? = some (.int .i64 e.2.1) ∧ (opsV l)[k * 4 + 3]? = some (.int .i64 e.2.2) := by
  induction l generalizing k with
  | nil => simp at h
  | cons a l ih =>
    cases k with
    | zero => simp at h; subst h; exact ⟨rfl, rfl, rfl, rfl⟩
    | succ k =>
      have := ih k (by simpa using h)
      rw [show (k + 1) * 4 = k * 4 + 1 + 1 + 1 + 1 by omega]
      exact this
theorem reads_op {w : World} {A : Option Addr} {l : List Op4} (h : Reads w 4 A l.length (opsV l)) {k : Nat} (hk : k < l.length) :
    ∃ g off, A = some ⟨g, off, none⟩ ∧ g < w.heap.size ∧ w.cell? ⟨g, off + k * 4, none⟩ = some (.int .i64 l[k].1.1) ∧ w.cell? ⟨g, off + k * 4 + 1, none⟩ = some (.int .i64 l[k].1.2) ∧ w.cell? ⟨g, off + k * 4 + 2, none⟩ = some (.int .i64 l[k].2.1) ∧ w.cell? ⟨g, off + k * 4 + 3, none⟩ = some (.int .i64 l[k].2.2) := by
  obtain ⟨g, off, hA, hg, hc⟩ := h.2 (by omega)
  have ⟨e1, e2, e3, e4⟩ := opsV_at l k l[k] (List.getElem?_eq_getElem hk)
  exact ⟨g, off, hA, hg, hc _ _ e1, by rw [Nat.add_assoc]; exact hc _ _ e2, by rw [Nat.add_assoc]; exact hc _ _ e3, by rw [Nat.add_assoc]; exact hc _ _ e4⟩
theorem Pair.new {w1 w2 : World} {b d : Nat} (hx : Idx w1 [b] b []) (hy : RIdx w2 [d] d []) (ht : Turn [] w1 w2) (hd : w1.heap.size ≤ d) : Pair w2 ([b] ++ [d]) b d [] :=
  ⟨[b], [d], rfl, hx.turn0 ht, hy, by
    intro k hk hk'
    have := hx.lt k hk
    simp at hk hk'
    omega, rise_nil⟩
/-- the outer loop's: x and w hold l. -/
structure PR (w0 : World) (S : List Nat) (b d : Nat) (l : List En) (n : Nat) (wr : World) : Prop where
  pair : Pair wr S b d l
  len : l.length ≤ n
  new : ∀ k ∈ S, w0.heap.size ≤ k
  turn : Turn [] w0 wr
theorem PR.turn0 {w0 wr w1 : World} {S : List Nat} {b d : Nat} {l : List En} {n m : Nat} (h : PR w0 S b d l n wr) (ht : Turn [] wr w1) (hm : n ≤ m) : PR w0 S b d l m w1 :=
  ⟨h.pair.turn0 ht, Nat.le_trans h.len hm, h.new, h.turn.trans0 ht⟩
theorem PR.step {w0 wr w1 w2 w3 : World} {S S' : List Nat} {b d : Nat} {l L : List En} {n : Nat} (h : PR w0 S b d l n wr) (t1 : Turn [] wr w1) (t2 : Turn S w1 w2) (hp : Pair w2 S' b d L) (hS : ∀ k ∈ S', k ∈ S ∨ w1.heap.size ≤ k) (hL : L.length ≤ l.length + 1) (t3 : Turn [] w2 w3) : PR w0 S' b d L (n + 1) w3 :=
  ⟨hp.turn0 t3, by have := h.len; omega, fun k hk => by
    rcases hS k hk with h1 | h1
    · exact h.new k h1
    · have := h.turn.size; have := t1.size; omega, ((h.turn.trans0 t1).trans t2 (fun x hx => .inr (h.new x hx))).trans0 t3⟩
/-- what one pair's call leaves of another's. -/
theorem PR.other {w0 wr w1 w2 : World} {S T : List Nat} {b d : Nat} {l : List En} {n : Nat} (h : PR w0 S b d l n wr) (t1 : Turn [] wr w1) (t2 : Turn T w1 w2) (hd : ∀ k ∈ S, k ∉ T) (hT : ∀ k ∈ T, w0.heap.size ≤ k) : PR w0 S b d l n w2 :=
  ⟨(h.pair.turn0 t1).turn t2 hd, h.len, h.new, (h.turn.trans0 t1).trans t2 (fun x hx => .inr (hT x hx))⟩
theorem fix4 {w : World} {e : Ending} {w' : World} {S : List Nat} {b d : Nat} {L : List En} (h : Stepped S b d L w e w') : e = .returned (.bool true) ∧ ∃ S', Pair w' S' b d L ∧ Turn S w w' ∧ ∀ k ∈ S', k ∈ S ∨ w.heap.size ≤ k := h

theorem clone_x {w : World} {S : List Nat} {b d : Nat} {l : List En} (h : Pair w S b d l) : Calls Try.prog 17 #[.pointer (some ⟨b, 0, none⟩)] w (Cloned l w) := by
  obtain ⟨F, G, rfl, hx, hy, ha, hr⟩ := h
  exact iclone_at hx
theorem clone_y {w : World} {S : List Nat} {b d : Nat} {l : List En} (h : Pair w S b d l) : Calls Try.prog 18 #[.pointer (some ⟨d, 0, none⟩)] w fun e w' => ∃ F b, e = .returned (.pointer (some ⟨b, 0, none⟩)) ∧ Turn [] w w' ∧ RIdx w' F b l ∧ ∀ k ∈ F, w.heap.size ≤ k := by
  obtain ⟨F, G, rfl, hx, hy, ha, hr⟩ := h
  exact rclone hy
theorem PR.clone {w0 wa w1 w2 : World} {S F G : List Nat} {b d b' d' : Nat} {l : List En} {n : Nat} (h : PR w0 S b d l n wa) (t1 : Turn [] wa w1) (hx : Idx w1 F b' l) (hF : ∀ k ∈ F, wa.heap.size ≤ k) (t2 : Turn [] w1 w2) (hy : RIdx w2 G d' l) (hG : ∀ k ∈ G, w1.heap.size ≤ k) :
    PR wa (F ++ G) b' d' l (n + 1) w2 := by
  refine ⟨⟨F, G, rfl, hx.turn0 t2, hy, fun k hk hk' => by have := hx.lt k hk; have := hG k hk'; omega, ?_⟩, by have := h.len; omega, fun k hk => ?_, t1.trans0 t2⟩
  · obtain ⟨_, _, _, _, _, _, hr⟩ := h.pair
    exact hr
  · have := t1.size
    rcases List.mem_append.1 hk with h1 | h1
    · exact hF k h1
    · have := hG k h1; omega

set_option maxHeartbeats 8000000 in
set_option maxRecDepth 100000 in
theorem plays_any (w : World) (A : Option Addr) (c : Nat) (L : List Op4) (hr : Reads w 4 A L.length (opsV L)) (hsz : L.length * 32 ≤ 140737488351232) :
    Calls Try.prog 5 #[.slice A L.length c] w (Same (.bool true) w) := by
  have HR := hide hr
  clear hr
  go_enter Try.func5, Try.ntmps5
  go_wp2_with fail
  refine (fixed_any _).mono ?_
  rintro e w1 ⟨rfl, ht1⟩
  have HT1 := hide ht1
  clear ht1
  go_wp2_with fail
  refine (new_any _).mono ?_
  rintro e w2 ⟨b, rfl, hb, ht2, hx2⟩
  have HT2 := hide (HT1.out.trans0 ht2)
  have hb2 : w.heap.size ≤ b := by have := HT1.out.size; omega
  have HX2 := hide hx2
  clear ht2 hx2 hb
  go_wp2_with fail
  refine (rnew _).mono ?_
  rintro e w3 ⟨d, rfl, hd, ht3, hy3⟩
  have HP3 : Hid (PR w ([b] ++ [d]) b d [] 0 w3) := hide ⟨Pair.new HX2.out hy3 ht3 hd, by simp, by
    have := HT2.out.size
    intro k hk
    simp at hk
    omega, HT2.out.trans0 ht3⟩
  clear ht3 hy3 hd hb2
  go_wp2_with fail
  refine (looks_any HP3.out.pair).mono ?_
  rintro e w4 ⟨rfl, ht4⟩
  have HP4 := hide (HP3.out.turn0 ht4 (Nat.le_refl _))
  clear ht4
  go_wp2_with fail
  clear HT1 HT2 HX2 HP3
  go_loopw [5] (fun i wr => ∃ (k : Nat) (S : List Nat) (l : List En), k ≤ L.length ∧ i = .int .i64 k ∧ PR w S b d l k wr) (fun i _ => L.length - (intOf i).toNat)
  case atStart => exact ⟨0, _, _, Nat.zero_le _, rfl, HP4.out⟩
  case round =>
    clear HP4
    obtain ⟨i, S, l, hi, rfl, hP⟩ := hrel
    by_cases hlt : i < L.length
    · obtain ⟨g, off, rfl, hg, hx0, hx1, hx2, hx3⟩ := reads_op (HR.out.turn0 hP.turn) hlt
      obtain ⟨⟨⟨kd, k⟩, a, n⟩, hq⟩ : ∃ q, q = L[i] := ⟨_, rfl⟩
      rw [← hq] at hx0 hx1 hx2 hx3
      clear hq
      have HP := hide hP
      have hlen := hP.len
      have hsz1 : (l.length + 1) * 16 ≤ 140737488355328 := by omega
      clear hP
      by_cases h5 : kd = 5
      · subst h5
        have HPa := hide (HP.out.turn0 ((Turn.refl [] wr).alloc (.cells #[.int .i64 5, .int .i64 k, .int .i64 a, .int .i64 n] 40)) (Nat.le_refl _))
        go_wp2_with fail
        clear hx0 hx1 hx2 hx3
        generalize wr.alloc (.cells #[.int .i64 5, .int .i64 k, .int .i64 a, .int .i64 n] 40) = wa at *
        refine (clone_x HPa.out.pair).mono ?_
        rintro e w5 ⟨F5, b5, rfl, ht5, hx5, hF5⟩
        have HT5 := hide ht5
        have HX5 := hide hx5
        have HF5 := hide hF5
        clear ht5 hx5 hF5
        go_wp2_with fail
        refine (clone_y (HPa.out.pair.turn0 HT5.out)).mono ?_
        rintro e w6 ⟨G6, d6, rfl, ht6, hy6, hG6⟩
        have HC6 := hide (HPa.out.clone HT5.out HX5.out HF5.out ht6 hy6 hG6)
        have HP6 := hide (HPa.out.turn0 (HT5.out.trans0 ht6) (Nat.le_refl _))
        clear ht6 hy6 hG6 HX5 HF5 HT5
        go_wp2_with fail
        refine (looks_any HC6.out.pair).mono ?_
        rintro e w7 ⟨rfl, ht7⟩
        have HC7 := hide (HC6.out.turn0 ht7 (Nat.le_refl _))
        have HP7 := hide (HP6.out.turn0 ht7 (Nat.le_refl _))
        clear ht7
        have hi1 : (i : Int) + 5 ≤ 9223372036854775807 := by omega
        have hSl := hide HPa.out.pair.lt
        go_wp2_with fail
        clear HC6 HP6 HP
        go_loopw [9] (fun j wx => ∃ (m : Nat) (S' : List Nat) (l' : List En), m ≤ L.length ∧ j = .int .i64 m ∧ PR wa S' b5 d6 l' m wx ∧ PR w S b d l i wx) (fun j _ => L.length - (intOf j).toNat)
        case atStart => exact ⟨i + 1, _, _, by omega, by go_num, HC7.out, HP7.out⟩
        case round =>
          clear HC7 HP7
          rename_i wq
          obtain ⟨m, S', l', hm, rfl, hC, hP⟩ := hrel
          by_cases hm1 : m < L.length
          · by_cases hm2 : m < i + 5
            · have hm2' : (m : Int) < (i : Int) + 5 := by omega
              obtain ⟨g2, off2, he2, hg2, hx0, hx1, hx2, hx3⟩ := reads_op (HR.out.turn0 hP.turn) hm1
              obtain ⟨rfl, rfl⟩ : g = g2 ∧ off = off2 := by simpa using he2
              clear he2
              obtain ⟨⟨⟨kd, k⟩, a, n⟩, hq⟩ : ∃ q, q = L[m] := ⟨_, rfl⟩
              rw [← hq] at hx0 hx1 hx2 hx3
              clear hq
              have HP := hide hP
              have HC := hide hC
              have hlc := hC.len
              have hsz2 : (l'.length + 1) * 16 ≤ 140737488355328 := by omega
              have HN := hide (fun k hk => hC.new k hk)
              clear hP hC
              go_wp2_with fail
              refine (step_any (HC.out.pair.turn0 (by repeat first | exact Turn.refl _ _ | exact (show Hid (Turn [] _ _) by assumption).out | refine Turn.drew ?_ | refine Turn.drewN ?_ _ | refine Turn.alloc ?_ _)) kd k a n hsz2).mono ?_
              rintro e w8 ⟨rfl, S8, hp8, ht8, hS8⟩
              have HC8 := hide (HC.out.step (by repeat first | exact Turn.refl _ _ | exact (show Hid (Turn [] _ _) by assumption).out | refine Turn.drew ?_ | refine Turn.drewN ?_ _ | refine Turn.alloc ?_ _) ht8 hp8 hS8 (stepL_length l' kd k a n) (Turn.refl _ _))
              have HP8 := hide (HP.out.other (by repeat first | exact Turn.refl _ _ | exact (show Hid (Turn [] _ _) by assumption).out | refine Turn.drew ?_ | refine Turn.drewN ?_ _ | refine Turn.alloc ?_ _) ht8 (fun k hk hk' => by have h1 := hSl.out k hk; have h2 := HN.out k hk'; omega) (fun k hk => by have h2 := HN.out k hk; have h3 := HPa.out.turn.size; omega))
              clear hp8 ht8 hS8
              obtain ⟨l8, hl8⟩ : ∃ l8, l8 = stepL l' kd k a n := ⟨_, rfl⟩
              rw [← hl8] at HC8
              clear hl8 HC HP hx0 hx1 hx2 hx3
              go_wp2_with fail
              refine (looks_any HC8.out.pair).mono ?_
              rintro e w9 ⟨rfl, ht9⟩
              have HC9 := hide (HC8.out.turn0 ht9 (Nat.le_refl _))
              have HP9 := hide (HP8.out.turn0 ht9 (Nat.le_refl _))
              clear ht9 HC8 HP8
              go_wp2_with fail
              refine (looks_any HP9.out.pair).mono ?_
              rintro e w10 ⟨rfl, ht10⟩
              have HC10 := hide (HC9.out.turn0 ht10 (Nat.le_refl _))
              have HP10 := hide (HP9.out.turn0 ht10 (Nat.le_refl _))
              clear ht10 HC9 HP9
              go_wp2_with fail
              exact ⟨⟨m + 1, S8, l8, by omega, by go_num, HC10.out, HP10.out⟩, by simp [intOf]; omega⟩
            · have hm2' : ¬ (m : Int) < (i : Int) + 5 := by omega
              have HP := hide hP
              clear hP hC
              go_wp2_with fail
              exact ⟨⟨i + 1, S, l, by omega, by go_num, HP.out.turn0 (Turn.refl _ _) (by omega)⟩, by simp [intOf]; omega⟩
          · obtain rfl : m = L.length := by omega
            have HP := hide hP
            clear hP hC
            go_wp2_with fail
            exact ⟨⟨i + 1, S, l, by omega, by go_num, HP.out.turn0 (Turn.refl _ _) (by omega)⟩, by simp [intOf]; omega⟩
      · have h5' : (kd == 5) = false := by simpa using h5
        clear h5
        go_wp2_with fail
        refine (step_any (HP.out.pair.turn0 (by repeat first | exact Turn.refl _ _ | exact (show Hid (Turn [] _ _) by assumption).out | refine Turn.drew ?_ | refine Turn.drewN ?_ _ | refine Turn.alloc ?_ _)) kd k a n hsz1).mono ?_
        rintro e w5 ⟨rfl, S5, hp5, ht5, hS5⟩
        have HP5 := hide (HP.out.step (by repeat first | exact Turn.refl _ _ | exact (show Hid (Turn [] _ _) by assumption).out | refine Turn.drew ?_ | refine Turn.drewN ?_ _ | refine Turn.alloc ?_ _) ht5 hp5 hS5 (stepL_length l kd k a n) (Turn.refl _ _))
        clear hp5 ht5 hS5
        obtain ⟨l5, hl5⟩ : ∃ l5, l5 = stepL l kd k a n := ⟨_, rfl⟩
        rw [← hl5] at HP5
        clear hl5
        go_wp2_with fail
        refine (looks_any HP5.out.pair).mono ?_
        rintro e w6 ⟨rfl, ht6⟩
        have HP6 := hide (HP5.out.turn0 ht6 (Nat.le_refl _))
        clear ht6
        go_wp2_with fail
        exact ⟨⟨i + 1, S5, l5, by omega, by go_num, HP6.out⟩, by simp [intOf]; omega⟩
    · obtain rfl : i = L.length := by omega
      have HT := hide hP.turn
      clear hP
      go_wp2_with fail
      go_ret
      exact ⟨rfl, HT.out⟩
end Go.Proofs.Ytgjpaglkcpomnaa

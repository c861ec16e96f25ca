/- What is put is read again, what is read is put as it was; the entries that fit are all loaded: plain. -/
import Derived.Test.YtgjpaglkcpomnaaW9x
namespace Go.Proofs.Ytgjpaglkcpomnaa
set_option linter.unusedVariables false
set_option linter.unusedSimpArgs false
open Go.RowKit K

def inR (e : En) : Prop := (-9223372036854775808 ≤ e.1 ∧ e.1 ≤ 9223372036854775807) ∧ (-9223372036854775808 ≤ e.2 ∧ e.2 ≤ 9223372036854775807)
theorem builtL_mem (L : List En) : ∀ e ∈ builtL L, e ∈ L := by
  have h : ∀ (L l : List En) (e : En), e ∈ L.foldl addL l → e ∈ l ∨ e ∈ L := by
    intro L
    induction L with
    | nil => intro l e h; exact .inl h
    | cons d L ih =>
      intro l e h
      rcases ih _ _ h with h1 | h1
      · unfold addL at h1
        split at h1
        · simp at h1; rcases h1 with h1 | h1
          · exact .inl h1
          · exact .inr (by simp [h1])
        · exact .inl h1
      · exact .inr (by simp [h1])
  intro e he
  rcases h L [] e he with h1 | h1
  · simp at h1
  · exact h1
theorem readL_putB (l : List En) (h : ∀ e ∈ l, inR e) : readL l.length (putB l) = l := by
  induction l with
  | nil => rfl
  | cons e l ih =>
    have h8 := Wire.be8_length
    have hr := h e (by simp)
    have e1 : putB (e :: l) = Wire.be8 e.1 ++ (Wire.be8 e.2 ++ putB l) := by simp [putB]
    rw [e1, List.length_cons, readL]
    have t1 : (Wire.be8 e.1 ++ (Wire.be8 e.2 ++ putB l)).take 8 = Wire.be8 e.1 := List.take_left' (h8 _)
    have t2 : (Wire.be8 e.1 ++ (Wire.be8 e.2 ++ putB l)).drop 8 = Wire.be8 e.2 ++ putB l := List.drop_left' (h8 _)
    have t3 : (Wire.be8 e.2 ++ putB l).take 8 = Wire.be8 e.2 := List.take_left' (h8 _)
    have t4 : (Wire.be8 e.1 ++ (Wire.be8 e.2 ++ putB l)).drop 16 = putB l := by
      rw [show 16 = 8 + 8 from rfl, ← List.drop_drop, t2]; exact List.drop_left' (h8 _)
    rw [t1, t2, t3, t4, ih (fun d hd => h d (by simp [hd])), Wire.rd8_be8 _ hr.1.1 hr.1.2, Wire.rd8_be8 _ hr.2.1 hr.2.2]
theorem putB_readL (n : Nat) (bs : List UInt8) (h : bs.length = 16 * n) : putB (readL n bs) = bs := by
  induction n generalizing bs with
  | zero =>
    have : bs = [] := List.eq_nil_of_length_eq_zero (by omega)
    subst this; rfl
  | succ n ih =>
    rw [readL]
    have e1 : ∀ (a b : Int) (l : List En), putB ((a, b) :: l) = Wire.be8 a ++ (Wire.be8 b ++ putB l) := fun a b l => by simp [putB]
    rw [e1, Wire.be8_rd8 _ (by rw [List.length_take]; omega), Wire.be8_rd8 _ (by rw [List.length_take, List.length_drop]; omega), ih _ (by rw [List.length_drop]; omega)]
    have : bs.drop 8 = (bs.drop 8).take 8 ++ bs.drop 16 := by
      conv => lhs; rw [← List.take_append_drop 8 (bs.drop 8)]
      rw [List.drop_drop]
    rw [← this, List.take_append_drop]
theorem allFit_append (l M : List En) (e : En) : allFit l (M ++ [e]) = (allFit l M && fits (l ++ M) e) := by
  induction M generalizing l with
  | nil => simp [allFit]
  | cons d M ih => simp [allFit, ih, Bool.and_assoc]
theorem allFit_built (L : List En) : allFit [] (builtL L) = true := by
  have h : ∀ (L l : List En), allFit [] l = true → allFit [] (L.foldl addL l) = true := by
    intro L
    induction L with
    | nil => intro l h; exact h
    | cons e L ih =>
      intro l h
      apply ih
      by_cases hf : fits l e = true
      · rw [(yes_EL hf).2, allFit_append, h]; simpa using hf
      · rw [(no_EL hf).2]; exact h
  exact h L [] rfl
theorem putB_takes (l : List En) (k : Nat) : (putB l).take (16 * k) = putB (l.take k) := by
  induction l generalizing k with
  | nil => simp [putB]
  | cons e l ih =>
    cases k with
    | zero => simp [putB]
    | succ k =>
      have h8 := Wire.be8_length
      have e1 : ∀ (e : En) (l : List En), putB (e :: l) = (Wire.be8 e.1 ++ Wire.be8 e.2) ++ putB l := fun e l => by simp [putB]
      rw [e1, List.take_succ_cons, e1, ← ih k, List.take_append]
      have hl : (Wire.be8 e.1 ++ Wire.be8 e.2).length = 16 := by simp [h8]
      rw [List.take_of_length_le (by omega), hl, show 16 * (k + 1) - 16 = 16 * k by omega]

/-- a row of which the contents do not matter. -/
def Row (w : World) (A : Option Addr) (n c : Nat) : Prop := ∃ xs, w.ownsRow 0 30 2 (.slice A n c) n xs
theorem Row.turn {w w1 : World} {A : Option Addr} {n c : Nat} {F : List Nat} (h : Row w A n c) (ht : Turn F w w1) (hd : ∀ k ∈ blockOf A, k ∉ F) : Row w1 A n c := by
  obtain ⟨xs, h⟩ := h
  exact ⟨xs, own_turn h ht (fun g hg => hd g (by rw [ownBlock_slice] at hg; simp [blockOf, hg]))⟩
theorem Row.lt {w : World} {A : Option Addr} {n c : Nat} (h : Row w A n c) : ∀ k ∈ blockOf A, k < w.heap.size := by
  obtain ⟨xs, h⟩ := h
  exact fun k hk => (h.lt k (by rw [ownBlock_slice]; simpa [blockOf] using hk)).2
theorem Row.at_ {w : World} {A : Option Addr} {n c k : Nat} (h : Row w A n c) (hk : k < n) : ∃ g u v, A = some ⟨g, 0, none⟩ ∧ g < w.heap.size ∧ w.cell? ⟨g, k * 2, none⟩ = some u ∧ w.cell? ⟨g, k * 2 + 1, none⟩ = some v ∧ w.frozen? ⟨g, k * 2, none⟩ = false ∧ w.frozen? ⟨g, k * 2 + 1, none⟩ = false := by
  obtain ⟨xs, h⟩ := h
  rcases h.2 with ⟨_, h2⟩ | ⟨g, cap, cur, hv, _, hh, h1, h2, h3, h4⟩
  · omega
  · injection hv with hA _ _
    subst hA
    have hg : g < w.heap.size := by
      rcases Nat.lt_or_ge g w.heap.size with h5 | h5
      · exact h5
      · rw [Array.getElem?_eq_none h5] at hh; cases hh
    have hB : Blk w g 30 cur := hh
    refine ⟨g, cur[k * 2]'(by omega), cur[k * 2 + 1]'(by omega), rfl, hg, ?_, ?_, hB.frozen _, hB.frozen _⟩
    · rw [hB.cell]; exact Array.getElem?_eq_getElem _
    · rw [hB.cell]; exact Array.getElem?_eq_getElem _
theorem Row.set {w : World} {g n c j : Nat} (h : Row w (some ⟨g, 0, none⟩) n c) (u : Value) : Row (w.setCell ⟨g, j, none⟩ u) (some ⟨g, 0, none⟩) n c := by
  obtain ⟨xs, h⟩ := h
  rcases h.2 with ⟨hv, _⟩ | ⟨g', cap, cur, hv, hb, hh, h1, h2, h3, h4⟩
  · cases hv
  · injection hv with hA hn hc
    injection hA with hA
    injection hA with hA
    subst hA hc
    have hB := (show Blk w g 30 cur from hh).set_ j u
    refine ⟨(cur.setIfInBounds j u).toList.take (n * 2), ⟨?_, .inr ⟨g, c, cur.setIfInBounds j u, rfl, hb, hB, h1, h2, by simpa using h3, rfl⟩⟩⟩
    rw [List.length_take, Array.length_toList, Array.size_setIfInBounds, h3]
    have := Nat.mul_le_mul_right 2 h1
    omega
end Go.Proofs.Ytgjpaglkcpomnaa

/- Entries as pairs of numbers, and what an index answers: plain lists, no program. -/
import Derived.Test.YtgjpaglkcpomnaaKit
namespace Go.Proofs.Ytgjpaglkcpomnaa
set_option linter.unusedVariables false
set_option linter.unusedSimpArgs false
open Go.RowKit K

abbrev En := Int × Int
def entV (e : En) : Value := .agg #[.int .i64 e.1, .int .i64 e.2]
def ents (l : List En) : List Value := l.flatMap fun e => [.int .i64 e.1, .int .i64 e.2]

theorem ents_nil : ents [] = [] := rfl
theorem ents_append (l m : List En) : ents (l ++ m) = ents l ++ ents m := by simp [ents]
theorem ents_length (l : List En) : (ents l).length = l.length * 2 := by
  induction l with
  | nil => rfl
  | cons e l ih => simp [ents] at ih ⊢; omega
theorem ents_at (l : List En) (k : Nat) (e : En) (h : l[k]? = some e) : (ents l)[k * 2]? = some (.int .i64 e.1) ∧ (ents l)[k * 2 + 1]? = some (.int .i64 e.2) := by
  induction l generalizing k with
  | nil => simp at h
  | cons d l ih =>
    cases k with
    | zero => simp at h; subst h; simp [ents]
    | succ k =>
      simp at h
      have := ih k h
      simp only [ents, List.flatMap_cons] at this ⊢
      rw [show (k + 1) * 2 = (k * 2) + 2 by omega, show (k * 2) + 2 + 1 = (k * 2 + 1) + 2 by omega]
      exact this
theorem ents_take (l : List En) (k : Nat) : (ents l).take (k * 2) = ents (l.take k) := by
  induction l generalizing k with
  | nil => simp [ents]
  | cons d l ih =>
    cases k with
    | zero => simp [ents]
    | succ k =>
      have := ih k
      simp only [ents, List.flatMap_cons, List.take_succ_cons] at this ⊢
      rw [show (k + 1) * 2 = (k * 2) + 2 by omega]
      simp [this]
theorem ents_oneCell (l : List En) : ∀ u ∈ ents l, u.oneCell' = true := by
  intro u hu
  simp [ents] at hu
  obtain ⟨a, b, _, rfl | rfl⟩ := hu <;> rfl

/-- the entry number i. -/
def entryOf (l : List En) (i : Int) : En × Bool := if 0 ≤ i ∧ i < l.length then (l.getD i.toNat (0, 0), true) else ((0, 0), false)
def lastOf (l : List En) : En × Bool := entryOf l ((l.length : Int) - 1)
/-- may it be laid behind the others? -/
def fits (l : List En) (e : En) : Bool := decide (0 ≤ e.1) && decide (0 ≤ e.2) && (l.isEmpty || (decide ((lastOf l).1.1 < e.1) && decide ((lastOf l).1.2 < e.2)))

theorem entryOf_in {l : List En} {k : Nat} (h : k < l.length) : entryOf l (k : Int) = (l[k], true) := by
  unfold entryOf
  rw [if_pos (by omega)]
  simp [h]
theorem entryOf_out {l : List En} {i : Int} (h : i < 0 ∨ (l.length : Int) ≤ i) : entryOf l i = ((0, 0), false) := by
  unfold entryOf
  rw [if_neg (by omega)]
theorem lastOf_nil : lastOf [] = ((0, 0), false) := rfl
theorem lastOf_pos {l : List En} (h : 0 < l.length) : lastOf l = (l[l.length - 1], true) := by
  unfold lastOf
  rw [show ((l.length : Int) - 1) = ((l.length - 1 : Nat) : Int) by omega]
  exact entryOf_in (by omega)
theorem lastOf_snoc (l : List En) (e : En) : lastOf (l ++ [e]) = (e, true) := by
  rw [lastOf_pos (by simp)]; simp

/-- a slice that reads as entries: what a walk reads of number k. -/
theorem reads_ent {w : World} {A : Option Addr} {l : List En} (h : Reads w 2 A l.length (ents l)) {k : Nat} (hk : k < l.length) :
    ∃ g off, A = some ⟨g, off, none⟩ ∧ g < w.heap.size ∧ w.cell? ⟨g, off + k * 2, none⟩ = some (.int .i64 l[k].1) ∧ w.cell? ⟨g, off + k * 2 + 1, none⟩ = some (.int .i64 l[k].2) := by
  obtain ⟨g, off, hA, hg, hc⟩ := h.2 (by omega)
  obtain ⟨h1, h2⟩ := ents_at l k l[k] (List.getElem?_eq_getElem hk)
  exact ⟨g, off, hA, hg, hc _ _ h1, hc _ _ h2⟩

end Go.Proofs.Ytgjpaglkcpomnaa

/- Opening arguments of my own: a slice of whatever elements reads as a list. Over any program. -/
import Derived.Test.YtlnjemdnmndnfaaKit
import Derived.ProofKit
import Derived.SizedLaws
import Derived.OpenShut
import Derived.ShutString
import Derived.ChangeOld
import Derived.Carry
namespace Go.Proofs.Ytlnjemdnmndnfaa.K
set_option linter.unusedVariables false
set_option linter.unusedSimpArgs false
open Go.ChangeShapes Go.WideShapes Go.Deep Go.RowKit

section
variable {H : Type} {enc : TypeId × Value → H} {P : Program} {w : World} {base : Nat} {spare : Nat → Bool} {held : Bool}
theorem cell_lt {w : World} {g o : Nat} {v : Value} (h : w.cell? ⟨g, o, none⟩ = some v) : g < w.heap.size := by
  rcases Nat.lt_or_ge g w.heap.size with h1 | h1
  · exact h1
  · unfold World.cell? at h
    rw [Array.getElem?_eq_none h1] at h
    cases h
theorem flat_at {α : Type} (toC : α → List Value) {size : Nat} (hs : ∀ a, (toC a).length = size) (L : List α) (i j : Nat) (hj : j < size) :
    (L.flatMap toC)[i * size + j]? = L[i]?.bind fun a => (toC a)[j]? := by
  induction L generalizing i with
  | nil => simp
  | cons a L ih =>
    cases i with
    | zero => simp [List.getElem?_append_left, hs, hj]
    | succ i =>
      rw [List.flatMap_cons, List.getElem?_append_right (by rw [hs, Nat.succ_mul]; omega), hs, show (i + 1) * size + j - size = i * size + j by rw [Nat.succ_mul]; omega, ih]
      simp
theorem flat_one {α : Type} (f : α → Value) (L : List α) : L.flatMap (fun e => [f e]) = L.map f := by
  induction L with
  | nil => rfl
  | cons a L ih => rw [List.flatMap_cons, ih]; rfl
theorem flat_length {α : Type} (toC : α → List Value) {size : Nat} (hs : ∀ a, (toC a).length = size) (L : List α) : (L.flatMap toC).length = L.length * size := by
  induction L with
  | nil => simp
  | cons a L ih => rw [List.flatMap_cons, List.length_append, hs, ih, List.length_cons, Nat.succ_mul]; omega
theorem list_of_fun {α : Type} {p : Nat → α → Prop} (n : Nat) (h : ∀ i, i < n → ∃ a, p i a) : ∃ L : List α, L.length = n ∧ ∀ i a, L[i]? = some a → p i a := by
  induction n with
  | zero => exact ⟨[], rfl, by simp⟩
  | succ n ih =>
    obtain ⟨L, hl, hp⟩ := ih (fun i hi => h i (by omega))
    obtain ⟨a, ha⟩ := h n (by omega)
    refine ⟨L ++ [a], by simp [hl], fun i b hb => ?_⟩
    by_cases hi : i < n
    · rw [List.getElem?_append_left (by omega)] at hb; exact hp i b hb
    · rw [List.getElem?_append_right (by omega)] at hb
      by_cases hi2 : i - L.length = 0
      · have : i = n := by omega
        subst this
        rw [hi2] at hb; simp at hb; subst hb; exact ha
      · obtain ⟨m, hm⟩ : ∃ m, i - L.length = m + 1 := ⟨i - L.length - 1, by omega⟩
        rw [hm] at hb; simp at hb

/-- A slice of whatever elements: it reads as the list of what its elements' cells are. -/
theorem read_list {α : Type} (toC : α → List Value) {Q : α → DataW H → Prop} {t e size fuel : Nat} {cs : List Value} {x : DataW H × List MemPlace} (ht : P.underlying t = some (.slice e)) (hC : P.cellsOf e = size) (hs0 : 0 < size) (hs : ∀ a, (toC a).length = size)
    (helem : ∀ n cs x, DataW.trod enc P w base spare held n e cs = some x → ∃ a, cs = toC a ∧ Q a x.1) (h : DataW.trod enc P w base spare held fuel t cs = some x) :
    ∃ A c, ∃ L : List α, cs = [.slice A L.length c] ∧ Reads w size A L.length (L.flatMap toC) ∧ L.length ≤ c ∧ ((x.1 = .nil ∧ L = []) ∨ ∃ els sp, x.1 = .slice els sp ∧ els.length = L.length ∧ ∀ (i : Nat) (a : α) (d : DataW H), L[i]? = some a → els[i]? = some d → Q a d) := by
  subst hC
  rcases open_slice ht h with ⟨rfl, rfl⟩ | ⟨a, len, cap, m, n, D, Pl, rfl, hb, hl, hm, hmm, rfl, hi⟩
  · exact ⟨none, 0, [], rfl, Reads.none_, by simp, .inl ⟨rfl, rfl⟩⟩
  · have hle : len ≤ m := by rw [hmm]; split <;> omega
    obtain ⟨L, hL, hp⟩ := list_of_fun (p := fun i b => w.cells? base (a.add (i * P.cellsOf e)) (P.cellsOf e) = some (toC b) ∧ Q b (D i)) len (fun i hi' => by
      obtain ⟨cs', h1, h2⟩ := hi i (by omega)
      obtain ⟨b, rfl, hq⟩ := helem _ _ _ h2
      exact ⟨b, h1, hq⟩)
    subst hL
    refine ⟨some a, cap, L, rfl, ⟨flat_length toC hs L, fun hn => ?_⟩, hl, .inr ⟨_, _, rfl, by simp, ?_⟩⟩
    · have hcell : ∀ i j b, j < P.cellsOf e → L[i]? = some b → w.cell? ((a.add (i * P.cellsOf e)).add j) = (toC b)[j]? := fun i j b hj hb' => (World.cells?_some (hp i b hb').1).2.2 j hj
      obtain ⟨g, off, spot⟩ := a
      have h0 := hcell 0 0 L[0] hs0 (List.getElem?_eq_getElem hn)
      have hsome : ∃ v, (toC L[0])[0]? = some v := ⟨(toC L[0])[0]'(by rw [hs]; exact hs0), List.getElem?_eq_getElem _⟩
      obtain ⟨v, hv⟩ := hsome
      rw [hv] at h0
      have h00 : w.cell? ⟨g, off, spot⟩ = some v := by simpa [Addr.add] using h0
      have hspot : spot = none := World.cell?_spot h00
      subst hspot
      refine ⟨g, off, rfl, cell_lt h00, fun k u hu => ?_⟩
      have hk : k < L.length * P.cellsOf e := by rw [← flat_length toC hs L]; exact (List.getElem?_eq_some_iff.1 hu).1
      have hq : k / P.cellsOf e < L.length := (Nat.div_lt_iff_lt_mul hs0).2 hk
      have hr : k % P.cellsOf e < P.cellsOf e := Nat.mod_lt _ hs0
      have hkk : k = k / P.cellsOf e * P.cellsOf e + k % P.cellsOf e := by rw [Nat.mul_comm]; exact (Nat.div_add_mod _ _).symm
      have h1 := hcell (k / P.cellsOf e) (k % P.cellsOf e) L[k / P.cellsOf e] hr (List.getElem?_eq_getElem hq)
      rw [add_add, ← hkk] at h1
      have h2 := flat_at toC hs L (k / P.cellsOf e) (k % P.cellsOf e) hr
      rw [← hkk, hu, List.getElem?_eq_getElem hq] at h2
      simp only [Option.bind_some] at h2
      rw [← h2] at h1
      have h3 : (Addr.mk g off none).add k = ⟨g, off + k, none⟩ := by by_cases hk0 : k = 0 <;> simp [Addr.add, hk0]
      rw [h3] at h1
      exact h1
    · intro i b d hb' hd
      have hil : i < L.length := (List.getElem?_eq_some_iff.1 hb').1
      simp [hil] at hd
      subst hd
      exact (hp i b hb').2
end

/-- The law answers true; what it has made is new. -/
def Tells (w : World) (e : Ending) (w' : World) : Prop := e = .returned (.bool true) ∧ Below w.heap.size w w'
theorem Tells.of_turn {w : World} {e : Ending} {w' : World} (h : e = .returned (.bool true)) (ht : Turn [] w w') : Tells w e w' := ⟨h, ht.below0⟩
end Go.Proofs.Ytlnjemdnmndnfaa.K
